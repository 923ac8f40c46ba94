/- A region that draws its order, whose operations all read but the last: in any fence, a round's too. -/
import Derived.OrdersIn
import Derived.RangeFuncNested
import Derived.RangeFuncBound
import Derived.Shelf.RegionOpen
import Derived.TacticsInMore
import Derived.OwnWalkIn
namespace Go.Proofs.YtlhagkbhojmjpaaDoor
set_option linter.unusedSimpArgs false
set_option linter.unusedVariables false
set_option linter.unusedSectionVars false
open Go.RowKit

section
variable {F : Fence} {n : Nat} {P : Program} {ops : Array Oper} {Q : Exit → Act → World → Prop} {md : Region.Mode} {S : World → Prop}
def YieldsW (F : Fence) (P : Program) (ops : Array Oper) (S : World → Prop) (o : Oper) (v : Value) (a : Act) : Prop :=
  ((Region.wanted o (yielded ops a.tmps) = true ∧ ∀ w, S w → (execOp a.eval o).run P w = .ok (.value v) w) ∨ (Region.wanted o (yielded ops a.tmps) = false ∧ v = undef)) ∧ ∀ w f, o.about P w a.eval = some f → F.fn f
theorem YieldsW.wpOp {i : Nat} {o : Oper} {v : Value} {a : Act} (hi : ops[i]? = some o) (hnd : ∀ c, o.op ≠ .defer c) (hy : YieldsW F P ops S o v a)
    {K : Act → World → Prop} {w : World} (hS : S w) (h : K (a.put o.dst v) w) : wpOpIn F n P ops Q i K a w := by
  unfold wpOpIn
  rcases hy.1 with ⟨h1, h2⟩ | ⟨h1, rfl⟩
  · simp only [hi, h1, if_true, Oper.wpIn]
    rw [Oper.semAt_plain F _ _ hnd, h2 w hS]
    exact ⟨hy.2 w, h⟩
  · simp only [hi, h1, Bool.false_eq_true, if_false]
    exact ⟨hy.2 w, h⟩
theorem YieldsW.of_same {o : Oper} {v : Value} {a a' : Act} (hy : YieldsW F P ops S o v a) (he : execOp a'.eval o = execOp a.eval o)
    (hw : Region.wanted o (yielded ops a'.tmps) = Region.wanted o (yielded ops a.tmps)) (hb : ∀ w, o.about P w a'.eval = o.about P w a.eval) : YieldsW F P ops S o v a' :=
  ⟨by rw [he, hw]; exact hy.1, fun w f hf => hy.2 w f (by rw [← hb]; exact hf)⟩
theorem wpOp_putW {j : Nat} {oi oj : Oper} {v : Value} (hj : ops[j]? = some oj) (hap : oi.apart ops oj = true)
    (hsi : ∀ cs b, oi.op ≠ .select cs b) (hsj : ∀ cs b, oj.op ≠ .select cs b) (hnj : ∀ c, oj.op ≠ .defer c)
    (hQ : ∀ c a w, Q (.panic c) (a.put oi.dst v) w → Q (.panic c) a w) {K : Act → World → Prop} {a : Act} {w : World}
    (hy : YieldsW F P ops S oi v a) (h : wpOpIn F n P ops Q j K (a.put oi.dst v) w) :
    wpOpIn F n P ops Q j (fun a' w' => YieldsW F P ops S oi v a' ∧ K (a'.put oi.dst v) w') a w := by
  obtain ⟨h1, h2, h3⟩ := Oper.apart_spec hap
  have keep : ∀ (a : Act), YieldsW F P ops S oi v a → ∀ u, YieldsW F P ops S oi v (a.put oj.dst u) := fun a hy u =>
    hy.of_same (execOp_put oi hsi a oj.dst u h3) (wanted_put oi a oj.dst u h3) (fun w => about_put oi w a oj.dst u h3)
  have keepD : ∀ d, YieldsW F P ops S oi v { a with defers := d :: a.defers } := fun d => hy.of_same rfl rfl (fun _ => rfl)
  unfold wpOpIn at *
  simp only [hj] at *
  rw [wanted_put oj a oi.dst v h1, about_put oj w a oi.dst v h1] at h
  split
  · rename_i hw
    simp only [hw, if_true] at h
    unfold Oper.wpIn at *
    rw [about_put oj w a oi.dst v h1] at h
    refine ⟨h.1, ?_⟩
    have h := h.2
    rw [Oper.semAt_plain F _ _ hnj, execOp_put oj hsj a oi.dst v h1] at h
    rw [Oper.semAt_plain F _ _ hnj]
    generalize (execOp a.eval oj).run P w = r at *
    cases r with
    | ok x w' =>
      cases x <;> simp only [Oper.uponIn] at h ⊢
      case value u => exact ⟨keep a hy u, by rw [← Act.put_comm a v u h2]; exact h⟩
      case skip => exact ⟨keep a hy _, by rw [← Act.put_comm a v undef h2]; exact h⟩
      case defer d =>
        refine ⟨keep _ (keepD d) _, ?_⟩
        rw [← Act.put_comm _ v undef h2, ← Act.put_defers]
        exact h
      case enter f args =>
        refine ⟨h.1, CallsIn.mono h.2 fun e w'' he => ?_⟩
        cases e with
        | returned u => exact ⟨keep a hy u, by rw [← Act.put_comm a v u h2]; exact he⟩
        | panicked c => exact hQ _ _ _ he
        | outgrown => exact he
      case row row args => exact ⟨h.1, RowsIn.mono h.2 fun u w'' he => ⟨keep a hy u, by rw [← Act.put_comm a v u h2]; exact he⟩⟩
      case round l f tmps assign body =>
        refine ⟨h.1, RoundIn.mono h.2 fun e w'' he => ?_⟩
        cases e with
        | returned u => exact ⟨keep a hy u, by rw [← Act.put_comm a v u h2]; exact he⟩
        | panicked c => exact hQ _ _ _ he
        | outgrown => exact he
    | halt x w' =>
      cases x <;> simp only [Oper.uponIn] at h ⊢
      case panic u => exact hQ _ _ _ h
  · rename_i hw
    simp only [hw] at h
    exact ⟨h.1, keep a hy _, by rw [← Act.put_comm a v undef h2]; exact h.2⟩

def wpAnyT (F : Fence) (n : Nat) (P : Program) (md : Region.Mode) (ops : Array Oper) (Q : Exit → Act → World → Prop) (S : World → Prop) (m : Nat) : Nat → Array Bool → Act → World → Prop
  | 0, listed, a, w => Region.ready md ops listed = [] ∧ Q .normal a w
  | fuel + 1, listed, a, w => (Region.ready md ops listed = [] → Q .normal a w) ∧
    ∀ i ∈ Region.ready md ops listed, wpOpIn F n P ops Q i (fun a' w' => (i ≠ m → S w') ∧ wpAnyT F n P md ops Q S m fuel (listed.setIfInBounds i true) a' w') a w
theorem qn0 {m : Nat} : ∀ (fuel : Nat) (listed : Array Bool) (a : Act) (w : World), wpAnyT F n P md ops Q S m fuel listed a w → wpAnyIn F n P md ops Q fuel listed a w
  | 0, _, _, _, h => h
  | fuel + 1, listed, a, w, h => ⟨h.1, fun i hi => wpOpIn_mono (fun a' w' h' => qn0 fuel _ a' w' h'.2) (h.2 i hi)⟩
theorem wpAnyT_first {m i : Nat} {oi : Oper} {v : Value} (hi : ops[i]? = some oi) (him : i ≠ m) (hsel : ∀ (j : Nat) (o : Oper) cs b, ops[j]? = some o → o.op ≠ .select cs b) (hnd : ∀ (j : Nat) (o : Oper) c, ops[j]? = some o → o.op ≠ .defer c)
    (hQ : ∀ c a w, Q (.panic c) (a.put oi.dst v) w → Q (.panic c) a w) (hmi : ∀ om, ops[m]? = some om → ∃ e ∈ om.after, Region.binds md e = true ∧ e.on = i) :
    ∀ (fuel : Nat) (listed : Array Bool) (a : Act) (w : World),
      (∀ j oj, ops[j]? = some oj → j ≠ i → listed.getD j true = false → (∀ e ∈ oj.after, Region.binds md e = true → e.on ≠ i) → oi.apart ops oj = true) →
      i ∈ Region.ready md ops listed → YieldsW F P ops S oi v a → S w →
      wpAnyT F n P md ops Q S m fuel (listed.setIfInBounds i true) (a.put oi.dst v) w → wpAnyT F n P md ops Q S m (fuel + 1) listed a w := by
  intro fuel
  induction fuel with
  | zero =>
    intro listed a w _ hr hy hS H
    refine ⟨fun h => (by rw [h] at hr; cases hr), fun j hj => ?_⟩
    by_cases hji : j = i
    · subst hji; exact hy.wpOp hi (fun c => hnd j oi c hi) hS ⟨fun _ => hS, H⟩
    · have := ready_mono hj hji
      rw [H.1] at this
      cases this
  | succ fuel ih =>
    intro listed a w hfree hr hy hS H
    refine ⟨fun h => (by rw [h] at hr; cases hr), fun j hj => ?_⟩
    by_cases hji : j = i
    · subst hji; exact hy.wpOp hi (fun c => hnd j oi c hi) hS ⟨fun _ => hS, H⟩
    · have h1 := H.2 j (ready_mono hj hji)
      obtain ⟨hjun, oj, hoj, hall⟩ := mem_ready.1 hj
      have hnot : ∀ e ∈ oj.after, Region.binds md e = true → e.on ≠ i := fun e he hb heq => by
        have h1 := hall e he hb
        have h0 := (mem_ready.1 hr).1
        rw [heq] at h1
        rcases Nat.lt_or_ge i listed.size with h' | h'
        · simp [h'] at h0 h1; rw [h0] at h1; cases h1
        · simp [Array.getElem?_eq_none h'] at h1
      have hjm : j ≠ m := fun e => by
        subst e
        obtain ⟨e, he, hb, hei⟩ := hmi oj hoj
        exact hnot e he hb hei
      have h2 := wpOp_putW hoj (hfree j oj hoj hji hjun hnot) (fun cs b => hsel i oi cs b hi) (fun cs b => hsel j oj cs b hoj) (fun c => hnd j oj c hoj) hQ hy h1
      have hfree' : ∀ k ok, ops[k]? = some ok → k ≠ i → (listed.setIfInBounds j true).getD k true = false →
          (∀ e ∈ ok.after, Region.binds md e = true → e.on ≠ i) → oi.apart ops ok = true := fun k ok hk hki hun hno => by
        refine hfree k ok hk hki ?_ hno
        by_cases hjk : j = k
        · subst hjk; exact hjun
        · rw [getD_set_ne true hjk] at hun; exact hun
      refine wpOpIn_mono (fun a' w' h3 => ⟨h3.2.1, ih (listed.setIfInBounds j true) a' w' hfree' (ready_mono hr (Ne.symm hji)) h3.1 (h3.2.1 hjm) ?_⟩) h2
      rw [Array.setIfInBounds_comm _ _ hji]
      exact h3.2.2
def qny (F : Fence) (P : Program) (ops : Array Oper) (S : World → Prop) (R : Act → Prop) : List Oper → Act → Prop
  | [], a => R a
  | o :: rest, a => ∃ v, YieldsW F P ops S o v a ∧ qny F P ops S R rest (a.put o.dst v)
def wpTailW (F : Fence) (n : Nat) (P : Program) (ops : Array Oper) (Q : Exit → Act → World → Prop) (S : World → Prop) (m : Nat) : Nat → Nat → Act → World → Prop
  | 0, _, a, w => Q .normal a w
  | c + 1, k, a, w => wpOpIn F n P ops Q k (fun a' w' => (k ≠ m → S w') ∧ wpTailW F n P ops Q S m c (k + 1) a' w') a w
def qnz (k m : Nat) : Array Bool := (Array.range m).map fun i => decide (i < k)
def isDeferB : Op → Bool | .defer _ => true | _ => false
def readsB (md : Region.Mode) (ops : Array Oper) (r m : Nat) : Bool :=
  decide (r ≤ ops.size) && decide (r ≤ m) && Region.noSelect ops && ops.all (fun o => !isDeferB o.op) &&
  (List.range r).all (fun i => (Region.ready md ops (qnz i ops.size)).contains i && Region.free md ops (qnz i ops.size) i && (qnz i ops.size).setIfInBounds i true == qnz (i + 1) ops.size &&
    (match ops[m]? with | some om => om.after.any (fun e => Region.binds md e && e.on == i) | none => true)) &&
  (List.range (ops.size - r)).all (fun c => decide (Region.ready md ops (qnz (r + c) ops.size) = [r + c]) && (qnz (r + c) ops.size).setIfInBounds (r + c) true == qnz (r + c + 1) ops.size) && decide (Region.ready md ops (qnz ops.size ops.size) = [])
theorem qn1 {m r : Nat} (hall : ∀ c, c < ops.size - r → Region.ready md ops (qnz (r + c) ops.size) = [r + c] ∧ (qnz (r + c) ops.size).setIfInBounds (r + c) true = qnz (r + c + 1) ops.size) (hend : Region.ready md ops (qnz ops.size ops.size) = []) :
    ∀ (c k : Nat) (a : Act) (w : World), k + c = ops.size → r ≤ k → wpTailW F n P ops Q S m c k a w → wpAnyT F n P md ops Q S m c (qnz k ops.size) a w
  | 0, k, a, w, hk, _, h => by
    rw [show k = ops.size by omega]
    exact ⟨hend, h⟩
  | c + 1, k, a, w, hk, hr, h => by
    obtain ⟨h1, h2⟩ := hall (k - r) (by omega)
    rw [show r + (k - r) = k by omega] at h1 h2
    refine ⟨fun h0 => (by rw [h1] at h0; cases h0), fun j hj => ?_⟩
    rw [h1] at hj
    have hjk : j = k := by simpa using hj
    subst hjk
    exact wpOpIn_mono (fun a' w' h' => ⟨h'.1, by rw [h2]; exact qn1 hall hend c (j + 1) a' w' (by omega) (by omega) h'.2⟩) h
theorem wpAnyT_reads {r m : Nat} (hB : readsB md ops r m = true) (hQ : ∀ c a a' w, Q (.panic c) a w → Q (.panic c) a' w) (w : World) (hS : S w) : ∀ (l : List Oper) (k : Nat) (a : Act), l.length + k = r → (∀ i, l[i]? = if k + i < r then ops[k + i]? else none) →
    qny F P ops S (fun a => wpTailW F n P ops Q S m (ops.size - r) r a w) l a → wpAnyT F n P md ops Q S m (l.length + (ops.size - r)) (qnz k ops.size) a w := by
  simp only [readsB, Bool.and_eq_true, decide_eq_true_eq, List.all_eq_true, List.mem_range] at hB
  obtain ⟨⟨⟨⟨⟨⟨hsz, hrm⟩, hsel⟩, hnd⟩, hall⟩, htl⟩, hend⟩ := hB
  have hnd' : ∀ (j : Nat) (o : Oper) c, ops[j]? = some o → o.op ≠ .defer c := fun j o c ho e => by
    have := Array.all_eq_true'.1 hnd o (Array.mem_of_getElem? ho)
    rw [e] at this
    exact absurd this (by simp [isDeferB])
  intro l
  induction l with
  | nil =>
    intro k a hk _ h
    have hkm : k = r := by simpa using hk
    subst hkm
    rw [List.length_nil, Nat.zero_add]
    exact qn1 (fun c hc => ⟨(htl c hc).1, eq_of_beq (htl c hc).2⟩) hend _ _ a w (by omega) (Nat.le_refl _) h
  | cons o rest ih =>
    intro k a hk hl h
    rw [List.length_cons] at hk
    have hkm : k < r := by omega
    obtain ⟨v, hy, h⟩ := h
    obtain ⟨⟨⟨hr, hf⟩, hset⟩, hom⟩ := hall k hkm
    have hset := eq_of_beq hset
    have hko : ops[k]? = some o := by have := hl 0; simpa [hkm] using this.symm
    rw [List.length_cons, show rest.length + 1 + (ops.size - r) = rest.length + (ops.size - r) + 1 by omega]
    refine wpAnyT_first hko (by omega) (Region.noSelect_spec hsel) hnd' (fun c a w h => hQ c _ _ w h) (fun om ho => ?_) _ _ a w (Region.free_spec hko hf) (by simpa using hr) hy hS ?_
    · rw [ho] at hom
      simp only [Array.any_eq_true'] at hom
      obtain ⟨e, he, h1⟩ := hom
      simp only [Bool.and_eq_true, beq_iff_eq] at h1
      exact ⟨e, he, h1.1, h1.2⟩
    · rw [hset]
      exact ih (k + 1) _ (by omega) (fun i => by have := hl (i + 1); rw [List.getElem?_cons_succ] at this; rw [this, show k + (i + 1) = k + 1 + i by omega]) h
theorem wpIn_region_reads {id : Nat} {l : List Oper} (r m : Nat) {a : Act} {w : World} (S : World → Prop) (hS : S w.drew) (hm : P.follows .mixedOrders = true) (hB : readsB .any l.toArray r m = true) (hQ : ∀ c a a' w, Q (.panic c) a w → Q (.panic c) a' w)
    (h : qny F P l.toArray S (fun a => wpTailW F n P l.toArray Q S m (l.toArray.size - r) r a w.drew) (l.take r) a) : (Code.region id l.toArray true).wpIn F n P Q a w := by
  refine wpIn_region_any hm (qn0 (S := S) (m := m) _ _ _ _ ?_)
  have hB' := hB
  simp only [readsB, Bool.and_eq_true, decide_eq_true_eq] at hB'
  have hsz : r ≤ l.length := by simpa using hB'.1.1.1.1.1.1
  have := wpAnyT_reads (n := n) (S := S) hB hQ w.drew hS (l.take r) 0 a (by rw [List.length_take]; omega) (fun i => by rw [List.getElem?_take]; split <;> simp [*]) h
  rw [List.length_take, Nat.min_eq_left (by omega), show r + (l.toArray.size - r) = l.toArray.size by simp; omega] at this
  rw [show Array.replicate l.toArray.size false = qnz 0 l.toArray.size by apply Array.ext <;> simp [qnz]]
  exact this
theorem reads_nil {R : Act → Prop} {a : Act} (h : R a) : qny F P ops S R [] a := h
theorem tail_nil {m c k : Nat} {a : Act} {w : World} (hc : c = 0) (h : Q .normal a w) : wpTailW F n P ops Q S m c k a w := by
  subst hc
  exact h
theorem tail_step {m c c' k : Nat} {o : Oper} {a : Act} {w : World} (hc : c = c' + 1) (ho : ops[k]? = some o)
    (h : ∀ K' : Act → World → Prop, (∀ a' w', (k ≠ m → S w') → wpTailW F n P ops Q S m c' (k + 1) a' w' → K' a' w') → if Region.wanted o (yielded ops a.tmps) = true then Oper.wpIn F n P o a w K' Q else (∀ f, o.about P w a.eval = some f → F.fn f) ∧ K' (a.put o.dst undef) w) : wpTailW F n P ops Q S m c k a w := by
  subst hc
  exact wpOpIn_step ho (fun K' hK' => h K' fun a' w' h1 h2 => hK' a' w' ⟨h1, h2⟩)
theorem reads_step {R : Act → Prop} {o : Oper} {rest : List Oper} {a : Act} {v : Value} (hw : Region.wanted o (yielded ops a.tmps) = true) (hF : ∀ f, F.fn f) (hr : ∀ w, S w → (execOp a.eval o).run P w = .ok (.value v) w)
    (h : qny F P ops S R rest (a.put o.dst v)) : qny F P ops S R (o :: rest) a :=
  ⟨v, ⟨.inl ⟨hw, hr⟩, fun _ f _ => hF f⟩, h⟩
theorem reads_skip {R : Act → Prop} {o : Oper} {rest : List Oper} {a : Act} (hw : Region.wanted o (yielded ops a.tmps) = false) (hF : ∀ f, F.fn f)
    (h : qny F P ops S R rest (a.put o.dst undef)) : qny F P ops S R (o :: rest) a :=
  ⟨undef, ⟨.inr ⟨hw, rfl⟩, fun _ f _ => hF f⟩, h⟩
theorem run_max_at {P : Program} {w : World} (ts : Array TypeId) (t : TypeId) (k k' : IntKind) (x y : Int) : (Builtin.max_ ts t #[.int k x, .int k' y]).run P w = .ok (.int k (max x y)) w := by
  simp only [Builtin.max_, List.foldlM_cons, List.foldlM_nil, Builtin.max2, Sem.run_bind, Sem.run_pure, Result.andThen_ok]
  congr 2
  split <;> omega
theorem reads_max {R : Act → Prop} {o : Oper} {rest : List Oper} {a : Act} (hw : Region.wanted o (yielded ops a.tmps) = true) (hF : ∀ f, F.fn f) (x y : Operand) (ts : Array TypeId) (hop : o.op = Op.call { callee := Callee.builtin Builtin.max, args := #[x, y], argTypes := ts })
    {k k' : IntKind} {p q : Int} (hx : a.eval x = .int k p) (hy : a.eval y = .int k' q) 
    (h : qny F P ops S R rest (a.put o.dst (.int k (max p q)))) : qny F P ops S R (o :: rest) a :=
  reads_step hw hF (fun w _ => by simp [execOp, hop, resolve, invoke, builtin, hx, hy, run_max_at, Result.andThen]) h
end
end Go.Proofs.YtlhagkbhojmjpaaDoor
