/- Symbolic runs, part x: environments, readings of arguments, the frame of a law. -/
import Derived.Test.YtccpepheooleoaaDoorSw
import Derived.ChangeArms
import Derived.Carry
import Derived.Deep.Slices
import GoSem.ClaimJoined
namespace Go.Proofs.YtccpepheooleoaaDoor
set_option linter.unusedSimpArgs false
set_option linter.unusedVariables false
set_option linter.unusedSectionVars false
open Go.RowKit

/-! ### Environments -/
structure Law where
  pre : List TV → Prop
  post : List TV → TV → Prop
def mkEnv (globT : Nat → TV) (l : List Law) : CEnv where
  glob := globT
  pre := fun n ts => match l[n]? with | some x => x.pre ts | none => False
  post := fun n ts r => match l[n]? with | some x => x.post ts r | none => False

section
variable {g : Nat → TV} {a : Law} {l : List Law} {n : Nat} {ts : List TV} {r : TV}
theorem pre_zero : (mkEnv g (a :: l)).pre 0 ts = a.pre ts := by simp only [mkEnv, List.getElem?_cons_zero]
theorem pre_succ : (mkEnv g (a :: l)).pre (n + 1) ts = (mkEnv g l).pre n ts := by simp only [mkEnv, List.getElem?_cons_succ]
theorem post_zero : (mkEnv g (a :: l)).post 0 ts r = a.post ts r := by simp only [mkEnv, List.getElem?_cons_zero]
theorem post_succ : (mkEnv g (a :: l)).post (n + 1) ts r = (mkEnv g l).post n ts r := by simp only [mkEnv, List.getElem?_cons_succ]
end
theorem Contract.renum {P : Program} {Γ : CEnv} {gt : GT} {f : FuncId} {n : Nat} {args : List (Bool × List CT)} {res : List (Bool × List (CT × Option TypeId))} {pre : List TV → Prop} {post : List TV → TV → Prop} (h : Contract P Γ gt ⟨f, n, args, res⟩ pre post) (k : Nat) : Contract P Γ gt ⟨f, k, args, res⟩ pre post :=
  ⟨h.enters, h.calls⟩
theorem Contract.env {P : Program} {Γ Γ' : CEnv} {gt : GT} {s : Sig} {pre : List TV → Prop} {post : List TV → TV → Prop} (h : Contract P Γ gt s pre post) (e : Γ.glob = Γ'.glob) : Contract P Γ' gt s pre post :=
  ⟨h.enters, fun w ts vs hg ha hp => h.calls w ts vs (fun g ag cs hm => by rw [e]; exact hg g ag cs hm) ha hp⟩
theorem Contract.weaken {P : Program} {Γ : CEnv} {gt : GT} {s : Sig} {pre pre' : List TV → Prop} {post post' : List TV → TV → Prop} (h : Contract P Γ gt s pre post) (hp : ∀ ts, pre' ts → pre ts) (hq : ∀ ts r, pre' ts → post ts r → post' ts r) : Contract P Γ gt s pre' post' :=
  ⟨h.enters, fun w ts vs hg ha hpr => (h.calls w ts vs hg ha (hp ts hpr)).mono fun e w' ⟨r, v, G', h1, h2, h3⟩ => ⟨r, v, G', h1, hq ts r hpr h2, h3⟩⟩

theorem Contract.inEnv {P : Program} {Γ : CEnv} {gt : GT} {s : Sig} {g : Nat → TV} {l : List Law} {x : Law} (hx : l[s.no]? = some x) (h : Contract P Γ gt s x.pre x.post) (e : Γ.glob = g) : Contract P (mkEnv g l) gt s ((mkEnv g l).pre s.no) ((mkEnv g l).post s.no) := by
  have e1 : (mkEnv g l).pre s.no = x.pre := by funext ts; simp only [mkEnv, hx]
  have e2 : (mkEnv g l).post s.no = x.post := by funext ts r; simp only [mkEnv, hx]
  rw [e1, e2]
  exact h.env e

/-! ### Well-typed trees -/
inductive OkT : CT → TV → Prop where
  | int (k : IntKind) (z : Int) (h : k.min ≤ z) (h' : z ≤ k.max) : OkT (.int k) (.int z)
  | bool (b : Bool) : OkT .bool (.bool b)
  | str (l : List UInt8) (h : l.length ≤ reachBytes) : OkT .str (.str l)
  | row (ct : CT) (l : List TV) (h : l.length ≤ reachBytes) (h' : ∀ x ∈ l, OkT ct x) : OkT (.slice false [ct]) (.list l)
  | rows (cs : List CT) (ls : List (List TV)) (h : ls.length ≤ reachBytes) (h1 : ∀ us ∈ ls, us.length = cs.length) (h2 : ∀ us ∈ ls, ∀ (c : Nat) ct u, cs[c]? = some ct → us[c]? = some u → OkT ct u) : OkT (.slice true cs) (.list (ls.map .agg))
def OkA (ag : Bool) (cs : List CT) (t : TV) : Prop := if ag then ∃ us, t = .agg us ∧ us.length = cs.length ∧ ∀ (c : Nat) ct u, cs[c]? = some ct → us[c]? = some u → OkT ct u else ∃ ct, cs = [ct] ∧ OkT ct t
theorem OkT.of_rows {ag : Bool} {cs : List CT} {l : List TV} (hl : l.length ≤ reachBytes) (hs : ag = false → ∃ ct, cs = [ct]) (h : ∀ x ∈ l, OkA ag cs x) : OkT (.slice ag cs) (.list l) := by
  cases ag with
  | false =>
    obtain ⟨ct, rfl⟩ := hs rfl
    refine .row ct l hl fun x hx => ?_
    obtain ⟨ct', h1, h2⟩ := h x hx
    simp only [List.cons.injEq, and_true] at h1
    subst h1
    exact h2
  | true =>
    have e : l = (l.map TV.cells).map TV.agg := by
      rw [List.map_map]
      conv => lhs; rw [← List.map_id l]
      refine List.map_congr_left fun x hx => ?_
      obtain ⟨us, rfl, _⟩ := h x hx
      rfl
    rw [e]
    refine .rows cs _ (by simpa using hl) (fun us hu => ?_) (fun us hu c ct u h1 h2 => ?_)
    all_goals
      obtain ⟨x, hx, rfl⟩ := List.mem_map.1 hu
      obtain ⟨us, rfl, h3, h4⟩ := h x hx
    · exact h3
    · exact h4 c ct u h1 h2

/-! ### Readings -/
mutual
def readP (P : Program) : Nat → TypeId → Option (Bool × List CT)
  | 0, _ => none
  | d + 1, t => match P.underlying t with
    | some (.int k) => some (false, [.int k])
    | some .bool => some (false, [.bool])
    | some .string => some (false, [.str])
    | some (.slice e) => match readP P d e with
      | some (ag, cs) => if Nat.beq (P.cellsOf e) cs.length && (Nat.blt 0 cs.length && Nat.blt 0 (P.bytesOf e)) then some (false, [.slice ag cs]) else none
      | none => none
    | some (.struct fs) => match readFs P d fs.toList 0 with
      | some cs => if Nat.beq (P.cellsOf t) cs.length then some (true, cs) else none
      | none => none
    | _ => none
def readFs (P : Program) : Nat → List Field → Nat → Option (List CT)
  | 0, _, _ => none
  | _ + 1, [], _ => some []
  | d + 1, f :: r, off => match readP P d f.type, readFs P d r (off + P.cellsOf f.type) with
    | some (_, cs), some rest => if Nat.beq f.offset off && Nat.beq (P.cellsOf f.type) cs.length then some (cs ++ rest) else none
    | _, _ => none
end
def partsA (ag : Bool) (t : TV) : List TV := if ag then t.cells else [t]

section
variable {H : Type} {enc : TypeId × Value → H} {P : Program} {w : World} {base : Nat} {sp : Nat → Bool} {held : Bool}

/-- Nothing in it is too great. -/
def WOk (P : Program) (t : TypeId) (d : DataW H) : Prop := ∀ n ∈ d.weights P t, n ≤ reachBytes
theorem weightsAll_mem {e : TypeId} {n : Nat} : ∀ {l : List (DataW H)} {d : DataW H}, d ∈ l → n ∈ d.weights P e → n ∈ DataW.weightsAll P e l
  | x :: r, d, h, hn => by
    simp only [DataW.weightsAll, List.mem_append]
    rcases List.mem_cons.1 h with rfl | h
    · exact .inl hn
    · exact .inr (weightsAll_mem h hn)
theorem weightsEach_mem {n : Nat} : ∀ {ts : List TypeId} {l : List (DataW H)} {i : Nat} {t : TypeId} {d : DataW H}, ts[i]? = some t → l[i]? = some d → n ∈ d.weights P t → n ∈ DataW.weightsEach P ts l
  | [], l, i, t, d, h, _, _ => by simp at h
  | _ :: _, [], i, t, d, _, h, _ => by simp at h
  | u :: ts, x :: r, 0, t, d, h, k, hn => by
    simp at h k
    subst h k
    simp only [DataW.weightsEach, List.mem_append]
    exact .inl hn
  | u :: ts, x :: r, i + 1, t, d, h, k, hn => by
    simp only [DataW.weightsEach, List.mem_append]
    exact .inr (weightsEach_mem (by simpa using h) (by simpa using k) hn)
theorem WOk.of_each {ts : List TypeId} {l : List (DataW H)} (h : (DataW.weightsEach P ts l).all (fun n => decide (n ≤ reachBytes)) = true) {i : Nat} {t : TypeId} {d : DataW H} (ht : ts[i]? = some t) (hd : l[i]? = some d) : WOk P t d := fun n hn => by
  have := List.all_eq_true.1 h n (weightsEach_mem ht hd hn)
  simpa using this
theorem WOk.elem {t e : TypeId} {l m : List (DataW H)} (ht : P.underlying t = some (.slice e)) (h : WOk P t (.slice l m)) {d : DataW H} (hd : d ∈ l) : WOk P e d := fun n hn => by
  refine h n ?_
  simp only [DataW.weights, ht]
  exact List.mem_cons_of_mem _ (List.mem_append.2 (.inl (weightsAll_mem hd hn)))
theorem WOk.len {t e : TypeId} {l m : List (DataW H)} (ht : P.underlying t = some (.slice e)) (hb : 0 < P.bytesOf e) (h : WOk P t (.slice l m)) : l.length ≤ reachBytes := by
  have := h ((l.length + m.length) * P.bytesOf e) (by simp only [DataW.weights, ht]; exact List.mem_cons_self)
  have h2 : (l.length + m.length) * 1 ≤ (l.length + m.length) * P.bytesOf e := Nat.mul_le_mul_left _ hb
  omega
theorem WOk.field {t : TypeId} {fs : Array Field} {l : List (DataW H)} (ht : P.underlying t = some (.struct fs)) (h : WOk P t (.agg l)) {i : Nat} {f : Field} {d : DataW H} (hf : fs[i]? = some f) (hd : l[i]? = some d) : WOk P f.type d := fun n hn => by
  refine h n ?_
  simp only [DataW.weights, ht]
  exact weightsEach_mem (i := i) (by rw [List.getElem?_map, Array.getElem?_toList, hf]; rfl) hd hn

theorem cells_full {a : Addr} {n : Nat} {cs : List Value} (hn : 0 < n) (h : w.cells? base a n = some cs) : ∃ g off cur el fr, a = ⟨g, off, none⟩ ∧ full w g (.cells cur el fr) ∧ cs.length = n ∧ ∀ c, c < n → cur[off + c]? = cs[c]? := by
  obtain ⟨_, hlen, hcell⟩ := World.cells?_some h
  obtain ⟨g, off, spot⟩ := a
  have h0 := hcell 0 hn
  have hc0 : ∃ c0, cs[0]? = some c0 := ⟨cs[0], List.getElem?_eq_getElem (by omega)⟩
  obtain ⟨c0, hc0⟩ := hc0
  rw [hc0] at h0
  have hspot : spot = none := by simpa [Addr.add] using World.cell?_spot h0
  subst hspot
  unfold World.cell? at h0
  have h1 : ∃ cur el fr, w.heap[g]? = some (.cells cur el fr) := by
    rw [show (({ block := g, off := off, spot := none } : Addr).add 0) = ⟨g, off, none⟩ from rfl] at h0
    split at h0
    · rename_i c e f hh
      simp at hh
      exact ⟨c, e, f, hh⟩
    · cases h0
  obtain ⟨cur, el, fr, h1⟩ := h1
  refine ⟨g, off, cur, el, fr, rfl, h1, hlen, fun c hc => ?_⟩
  have := hcell c hc
  rw [← this]
  have e : (({ block := g, off := off, spot := none } : Addr).add c) = ⟨g, off + c, none⟩ := by
    unfold Addr.add
    split
    · rename_i h; subst h; rfl
    · rfl
  rw [e]
  unfold World.cell?
  simp [h1]

theorem add_none (g off n : Nat) : ({ block := g, off := off, spot := none } : Addr).add n = ⟨g, off + n, none⟩ := by
  unfold Addr.add
  split
  · rename_i h; subst h; rfl
  · rfl
theorem parts_len {ag : Bool} {cs : List CT} {t : TV} (h : OkA ag cs t) : (partsA ag t).length = cs.length := by
  unfold OkA at h
  unfold partsA
  split at h
  · obtain ⟨us, rfl, h1, _⟩ := h; rw [if_pos ‹_›]; exact h1
  · obtain ⟨ct, rfl, _⟩ := h; rw [if_neg ‹_›]; rfl
theorem parts_get {ag : Bool} {cs : List CT} {t : TV} (h : OkA ag cs t) {c : Nat} (hc : c < cs.length) : (partsA ag t)[c]? = some (elemCell ag t c) ∧ OkT cs[c] (elemCell ag t c) := by
  have hl := parts_len h
  unfold OkA at h
  unfold partsA at *
  unfold elemCell
  split at h
  · rename_i hag
    obtain ⟨us, rfl, h1, h2⟩ := h
    simp only [hag, if_true, cells_agg, TV.cell] at *
    have e : us[c]? = some us[c] := List.getElem?_eq_getElem (by omega)
    rw [List.getD_eq_getElem?_getD, e]
    exact ⟨rfl, h2 c _ _ (List.getElem?_eq_getElem hc) e⟩
  · rename_i hag
    obtain ⟨ct, rfl, h1⟩ := h
    simp only [hag, if_false] at *
    have : c = 0 := by simp at hc; exact hc
    subst this
    exact ⟨rfl, h1⟩
instance : Inhabited TV := ⟨.int 0⟩
theorem read_slice {e t : TypeId} {ag : Bool} {cs : List CT} (ht : P.underlying t = some (.slice e)) (hce : P.cellsOf e = cs.length) (hpos : 0 < cs.length) (hby : 0 < P.bytesOf e) (hs : ag = false → ∃ ct, cs = [ct])
    (ih : ∀ n vs x, DataW.trod enc P w base sp held n e vs = some x → WOk P e x.1 → ∃ tv, CellsT (full w) ag cs tv vs ∧ OkA ag cs tv) {n : Nat} {vs : List Value} {x : DataW H × List MemPlace} (h : DataW.trod enc P w base sp held n t vs = some x) (hwt : WOk P t x.1) :
    ∃ tv, CellsT (full w) false [.slice ag cs] tv vs ∧ OkA false [.slice ag cs] tv := by
  have one : ∀ (tv : TV) (v : Value), RepT (full w) (.slice ag cs) tv v → CellsT (full w) false [.slice ag cs] tv [v] := fun tv v hr => ⟨rfl, fun c hc => by
    have : c = 0 := by simp at hc; exact hc
    subst this
    exact ⟨v, rfl, hr⟩⟩
  rcases Go.Deep.open_slice ht h with ⟨rfl, _⟩ | ⟨a, len, cap, m, n', D, Pl, rfl, hb, hl, hm, hmm, rfl, hx⟩
  · exact ⟨.list [], one _ _ (.empty ag cs _ none 0 rfl (fun _ => rfl) (by decide)), _, rfl, OkT.of_rows (by simp) hs (fun x hx => by cases hx)⟩
  · have hlm : len ≤ m := by rw [hmm]; split <;> omega
    rw [hce] at hx
    obtain ⟨T, hT⟩ := Go.Deep.choose_lt (α := TV) (n := len) (p := fun i tv => ∃ cs', w.cells? base (a.add (i * cs.length)) cs.length = some cs' ∧ CellsT (full w) ag cs tv cs' ∧ OkA ag cs tv) (fun i hi => by
      obtain ⟨cs', h1, h2⟩ := hx i (by omega)
      obtain ⟨tv, h3, h4⟩ := ih _ _ _ h2 (hwt.elem ht (List.mem_map.2 ⟨i, by simpa using hi, rfl⟩))
      exact ⟨tv, cs', h1, h3, h4⟩)
    have hok : OkT (.slice ag cs) (.list ((List.range len).map T)) := OkT.of_rows (by have := hwt.len ht hby; simpa using this) hs (fun x hx => by
      obtain ⟨i, hi, rfl⟩ := List.mem_map.1 hx
      obtain ⟨_, _, _, h⟩ := hT i (by simpa using hi)
      exact h)
    refine ⟨.list ((List.range len).map T), one _ _ ?_, _, rfl, hok⟩
    cases len with
    | zero => exact .empty ag cs _ _ cap (by simp [TV.asList]) (fun h => by cases h) hm
    | succ k =>
      obtain ⟨cs0, h0, _, _⟩ := hT 0 (by omega)
      rw [Nat.zero_mul, show a.add 0 = a from by simp [Addr.add]] at h0
      obtain ⟨g, off, cur, el, fr, rfl, hM, _, _⟩ := cells_full hpos h0
      have hlen : (TV.list ((List.range (k + 1)).map T)).asList.length = k + 1 := by simp [TV.asList]
      have key := RepT.slice (M := full w) ag cs (.list ((List.range (k + 1)).map T)) g off cap cur el fr (fun i c => (cur[off + i * cs.length + c]?).getD undef) hM (by rw [hlen]; exact hl) hm (fun i hi c hc => ?_) (fun i hi c hc => ?_)
      · rw [hlen] at key; exact key
      all_goals
        have hi' : i < k + 1 := by rw [hlen] at hi; exact hi
        obtain ⟨cs', h1, h2, h3⟩ := hT i hi'
        rw [add_none] at h1
        obtain ⟨g', off', cur', el', fr', e, hM', hl', hc'⟩ := cells_full hpos h1
        simp only [Addr.mk.injEq, and_true] at e
        obtain ⟨rfl, rfl⟩ := e
        have e2 := Option.some.inj (hM.symm.trans hM')
        simp only [Obj.cells.injEq] at e2
        obtain ⟨rfl, _, _⟩ := e2
        obtain ⟨v, k1, k2⟩ := h2.2 c hc
        have k3 := hc' c hc
        rw [k1] at k3
      · rw [k3]; rfl
      · rw [k3]
        simp only [TV.asList, List.getElem_map, List.getElem_range]
        exact k2

theorem one_cells {ct : CT} {t : TV} {v : Value} (h : RepT (full w) ct t v) : CellsT (full w) false [ct] t [v] := ⟨rfl, fun c hc => by
  have : c = 0 := by simp at hc; exact hc
  subst this
  exact ⟨v, rfl, h⟩⟩
theorem readP_one : ∀ {d : Nat} {t : TypeId} {cs : List CT}, readP P d t = some (false, cs) → ∃ ct, cs = [ct]
  | 0, t, cs, h => by simp [readP] at h
  | d + 1, t, cs, h => by
    unfold readP at h
    split at h
    · simp only [Option.some.injEq, Prod.mk.injEq, true_and] at h; exact ⟨_, h.symm⟩
    · simp only [Option.some.injEq, Prod.mk.injEq, true_and] at h; exact ⟨_, h.symm⟩
    · simp only [Option.some.injEq, Prod.mk.injEq, true_and] at h; exact ⟨_, h.symm⟩
    · split at h
      · split at h
        · simp only [Option.some.injEq, Prod.mk.injEq, true_and] at h; exact ⟨_, h.symm⟩
        · cases h
      · cases h
    · split at h
      · split at h
        · simp at h
        · cases h
      · cases h
    · cases h
theorem read_ok : ∀ (d : Nat), (∀ {t : TypeId} {ag : Bool} {cs : List CT}, readP P d t = some (ag, cs) → ∀ n vs x, DataW.trod enc P w base sp held n t vs = some x → WOk P t x.1 → ∃ tv, CellsT (full w) ag cs tv vs ∧ OkA ag cs tv) ∧
    (∀ {fs : List Field} {off : Nat} {cs : List CT} {vs : List Value} {n : Nat}, readFs P d fs off = some cs → (∀ (i : Nat) f, fs[i]? = some f → ∃ y, DataW.trod enc P w base sp held n f.type ((vs.drop f.offset).take (P.cellsOf f.type)) = some y ∧ WOk P f.type y.1) →
      ∃ us : List TV, us.length = cs.length ∧ ∀ c (hc : c < cs.length), ∃ v u, vs[off + c]? = some v ∧ us[c]? = some u ∧ RepT (full w) cs[c] u v ∧ OkT cs[c] u) := by
  intro d
  induction d with
  | zero => exact ⟨fun h => by simp [readP] at h, fun h => by simp [readFs] at h⟩
  | succ d ih =>
    obtain ⟨ih1, ih2⟩ := ih
    refine ⟨?_, ?_⟩
    · intro t ag cs h n vs x hx hwt
      unfold readP at h
      split at h
      · rename_i k hk
        simp only [Option.some.injEq, Prod.mk.injEq] at h
        obtain ⟨rfl, rfl⟩ := h
        obtain ⟨z, rfl, rfl, hw⟩ := DataW.trod_int hk hx
        simp only [Lit.wf, Bool.and_eq_true, decide_eq_true_eq] at hw
        exact ⟨.int z, one_cells (.int k (.int z)), _, rfl, .int k z hw.1 hw.2⟩
      · rename_i hk
        simp only [Option.some.injEq, Prod.mk.injEq] at h
        obtain ⟨rfl, rfl⟩ := h
        obtain ⟨b, rfl, rfl⟩ := DataW.trod_bool hk hx
        exact ⟨.bool b, one_cells (.bool (.bool b)), _, rfl, .bool b⟩
      · rename_i hk
        simp only [Option.some.injEq, Prod.mk.injEq] at h
        obtain ⟨rfl, rfl⟩ := h
        obtain ⟨⟨⟨b⟩⟩, rfl, rfl, hl⟩ := DataW.trod_string hk hx
        exact ⟨.str b, one_cells (.str (.str b)), _, rfl, .str b (hwt _ (by simp [DataW.weights]))⟩
      · rename_i e hk
        split at h
        · rename_i ag' cs' he
          split at h
          · rename_i hc
            simp only [Bool.and_eq_true, Nat.beq_eq, Nat.blt_eq] at hc
            simp only [Option.some.injEq, Prod.mk.injEq] at h
            obtain ⟨rfl, rfl⟩ := h
            exact read_slice hk hc.1 hc.2.1 hc.2.2 (fun ha => by subst ha; exact readP_one he) (ih1 he) hx hwt
          · cases h
        · cases h
      · rename_i fs hk
        split at h
        · rename_i cs' he
          split at h
          · rename_i hc
            simp only [Nat.beq_eq] at hc
            simp only [Option.some.injEq, Prod.mk.injEq] at h
            obtain ⟨rfl, rfl⟩ := h
            obtain ⟨xs, m, rfl, rfl, hlen, hxs, hall⟩ := DataW.trod_struct hk hx
            obtain ⟨us, h1, h2⟩ := ih2 (vs := vs) (n := m) he (fun i f hf => by
              rw [Array.getElem?_toList] at hf
              have hi : i < xs.length := by rw [hxs]; exact (Array.getElem?_eq_some_iff.1 hf).1
              refine ⟨xs[i], ?_, hwt.field hk hf (by rw [List.getElem?_map, List.getElem?_eq_getElem hi]; rfl)⟩
              rw [hall i f hf]
              exact List.getElem?_eq_getElem _)
            refine ⟨.agg us, ⟨by rw [hlen, hc], fun c hc' => ?_⟩, us, rfl, h1, fun c ct u hc' hu => ?_⟩
            · obtain ⟨v, u, k1, k2, k3, _⟩ := h2 c hc'
              rw [Nat.zero_add] at k1
              refine ⟨v, k1, ?_⟩
              simp only [elemCell, if_true, TV.cell, cells_agg, List.getD_eq_getElem?_getD, k2]
              exact k3
            · have hlt : c < cs'.length := (List.getElem?_eq_some_iff.1 hc').1
              obtain ⟨v, u', _, k2, _, k4⟩ := h2 c hlt
              rw [hu] at k2
              obtain rfl := Option.some.inj k2
              rw [List.getElem?_eq_getElem hlt] at hc'
              obtain rfl := Option.some.inj hc'
              exact k4
          · cases h
        · cases h
      · cases h
    · intro fs
      cases fs with
      | nil =>
        intro off cs vs n h _
        simp only [readFs, Option.some.injEq] at h
        subst h
        exact ⟨[], rfl, fun c hc => by simp at hc⟩
      | cons f r =>
        intro off cs vs n h hall
        simp only [readFs] at h
        split at h
        · rename_i ag cs1 rest h1 h2
          split at h
          · rename_i hc
            simp only [Bool.and_eq_true, Nat.beq_eq] at hc
            simp only [Option.some.injEq] at h
            subst h
            obtain ⟨y, hy, hyw⟩ := hall 0 f rfl
            obtain ⟨tv, k1, k2⟩ := ih1 h1 _ _ _ hy hyw
            obtain ⟨us, k3, k4⟩ := ih2 (vs := vs) (n := n) h2 (fun i g hg => hall (i + 1) g hg)
            have hp := parts_len k2
            refine ⟨partsA ag tv ++ us, by simp [hp, k3], fun c hc' => ?_⟩
            by_cases hlt : c < cs1.length
            · obtain ⟨v, q1, q2⟩ := k1.2 c hlt
              obtain ⟨q3, q4⟩ := parts_get k2 hlt
              refine ⟨v, elemCell ag tv c, ?_, ?_, ?_, ?_⟩
              · rw [List.getElem?_take, if_pos (by rw [hc.2]; exact hlt), List.getElem?_drop, hc.1] at q1
                exact q1
              · rw [List.getElem?_append_left (by omega)]; exact q3
              · rw [List.getElem_append_left hlt]; exact q2
              · rw [List.getElem_append_left hlt]; exact q4
            · have hc2 : c - cs1.length < rest.length := by rw [List.length_append] at hc'; omega
              obtain ⟨v, u, q1, q2, q3, q4⟩ := k4 (c - cs1.length) hc2
              refine ⟨v, u, ?_, ?_, ?_, ?_⟩
              · rw [← q1, hc.2]; congr 1; omega
              · rw [List.getElem?_append_right (by omega), hp]; exact q2
              · rw [List.getElem_append_right (by omega)]; exact q3
              · rw [List.getElem_append_right (by omega)]; exact q4
          · cases h
        · cases h

/-- An argument that can be read: a tree, well typed. -/
theorem open_any {r : Reach} {b0 d : Nat} {t : TypeId} {v : Value} {dd : DataW H} {ps : List MemPlace} {x : Bool × List CT} (hr : readP P d t = some x) (hv : Value.okWide P w r b0 t v) (h : DataW.Trod enc P w base sp held t v dd ps) (hwt : WOk P t dd) :
    ∃ tv, ArgRep w x tv v ∧ OkA x.1 x.2 tv := by
  obtain ⟨n, hn⟩ := h
  obtain ⟨tv, h1, h2⟩ := (read_ok (w := w) (P := P) (enc := enc) (base := base) (sp := sp) (held := held) d).1 (ag := x.1) (cs := x.2) hr _ _ _ hn hwt
  refine ⟨tv, ?_, h2⟩
  unfold ArgRep
  obtain ⟨ag, cs⟩ := x
  cases ag with
  | true =>
    simp only [if_true]
    cases d with
    | zero => simp [readP] at hr
    | succ d =>
      unfold readP at hr
      split at hr
      all_goals first | (cases hr; done) | skip
      · split at hr
        · split at hr
          · simp at hr
          · cases hr
        · cases hr
      · rename_i fs hk
        unfold Value.okWide at hv
        rw [hk] at hv
        obtain ⟨cs', rfl, _⟩ := hv
        exact ⟨cs', rfl, h1⟩
  | false =>
    obtain ⟨ct, rfl⟩ := readP_one hr
    refine ⟨ct, rfl, ?_⟩
    obtain ⟨u, k1, k2⟩ := h1.2 0 (by simp)
    have hone : v.cells.toList = [v] := by
      cases d with
      | zero => simp [readP] at hr
      | succ d =>
        unfold readP at hr
        split at hr
        · rename_i k hk
          obtain ⟨z, rfl⟩ := Go.WideShapes.okWide_int hk hv; rfl
        · rename_i hk
          obtain ⟨z, rfl⟩ := Go.WideShapes.okWide_bool hk hv; rfl
        · rename_i hk
          obtain ⟨z, rfl⟩ := Go.WideShapes.okWide_string hk hv; rfl
        · rename_i e hk
          obtain ⟨a, l, c, rfl⟩ := Go.WideShapes.okWide_slice hk hv; rfl
        · split at hr
          · split at hr
            · simp at hr
            · cases hr
          · cases hr
        · cases hr
    rw [hone] at k1
    simp at k1
    subst k1
    exact k2
end

/-! ### A law: its contract says true -/
theorem argsRep_nil {w : World} : ArgsRep w [] [] [] := ⟨rfl, rfl, fun i x t v h => by simp at h⟩
theorem argsRep_cons {w : World} {x : Bool × List CT} {as : List (Bool × List CT)} {t : TV} {ts : List TV} {v : Value} {vs : List Value} (h : ArgRep w x t v) (k : ArgsRep w as ts vs) : ArgsRep w (x :: as) (t :: ts) (v :: vs) :=
  ⟨by simp [k.1], by simp [k.2.1], fun i y u z h1 h2 h3 => by
    cases i with
    | zero => simp at h1 h2 h3; subst h1 h2 h3; exact h
    | succ i => exact k.2.2 i y u z (by simpa using h1) (by simpa using h2) (by simpa using h3)⟩
theorem Contract.law {P : Program} {Γ : CEnv} {gt : GT} {f : FuncId} {no : Nat} {args : List (Bool × List CT)} {pre : List TV → Prop} {post : List TV → TV → Prop}
    (h : Contract P Γ gt ⟨f, no, args, [(false, [(.bool, none)])]⟩ pre post) (hpost : ∀ ts r, pre ts → post ts r → r.asBool = true) {w : World} {ts : List TV} {vs : Array Value} (hg : GlobOk Γ gt w) (ha : ArgsRep w args ts vs.toList) (hp : pre ts) :
    Calls P f vs w fun e w' => e = .returned (.bool true) ∧ Below w.heap.size w w' := by
  refine (h.calls w ts vs hg ha hp).mono fun e w' ⟨r, v, G', h1, h2, h3, _, h5⟩ => ⟨?_, h3⟩
  subst h1
  obtain ⟨us, k1, k2, _, k4, k5, _⟩ := h5
  match us, k2 with
  | [u], _ =>
    simp only [List.length_singleton, if_true, List.headD_cons] at k1
    subst k1
    have := k5 0 ((.bool, none), r) v (by rfl) (by rfl)
    unfold ResC at this
    cases this with
    | bool t => rw [hpost ts r hp h2]
theorem GlobOk.none {Γ : CEnv} {w : World} : GlobOk Γ [] w := fun g ag cs h => by cases h
end Go.Proofs.YtccpepheooleoaaDoor
