/- Symbolic runs, part p: a state as an instance of a loop's head. -/
import Derived.Test.YtccpepheooleoaaDoorSo
namespace Go.Proofs.YtccpepheooleoaaDoor
set_option linter.unusedSimpArgs false
set_option linter.unusedVariables false
set_option linter.unusedSectionVars false
open Go.RowKit

/-! ### Equality of states by computation -/
def litEq : Value → Value → Bool
  | .nilFunc, .nilFunc => true
  | .nilIface, .nilIface => true
  | .pointer none, .pointer none => true
  | .tuple ⟨[]⟩, .tuple ⟨[]⟩ => true
  | .map none, .map none => true
  | _, _ => false
theorem litEq_eq {a b : Value} (h : litEq a b = true) : a = b := by
  unfold litEq at h
  split at h <;> first | rfl | cases h
def capEq (a b : Nat × Nat) : Bool := Nat.beq a.1 b.1 && Nat.beq a.2 b.2
theorem capEq_eq {a b : Nat × Nat} (h : capEq a b = true) : a = b := by
  simp only [capEq, Bool.and_eq_true, Nat.beq_eq] at h
  exact Prod.ext h.1 h.2
def SC.beq : SC → SC → Bool
  | .undef, .undef => true
  | .int k e, .int l f => keq k l && e.beq f
  | .bool e, .bool f => e.beq f
  | .str e, .str f => e.beq f
  | .nil, .nil => true
  | .imm a b cs e, .imm c d ds f => (a == c) && (b == d) && ctsEq cs ds && e.beq f
  | .own b v, .own c w => Nat.beq b c && Nat.beq v w
  | .sub b v l h, .sub c w m i => Nat.beq b c && Nat.beq v w && l.beq m && h.beq i
  | .ptr b v i c, .ptr d w j e => Nat.beq b d && Nat.beq v w && i.beq j && Nat.beq c e
  | .pel a b cs e i c, .pel a' b' cs' e' i' c' => (a == a') && (b == b') && ctsEq cs cs' && e.beq e' && i.beq i' && Nat.beq c c'
  | .fn f cs, .fn g ds => Nat.beq f g && listEq capEq cs ds
  | .lit u, .lit v => litEq u v
  | _, _ => false
theorem SC.beq_eq {a b : SC} (h : a.beq b = true) : a = b := by
  cases a <;> cases b <;> simp only [SC.beq, Bool.and_eq_true, Nat.beq_eq, beq_iff_eq, Bool.false_eq_true] at h
  · rfl
  · rw [keq_eq h.1, E.beq_eq h.2]
  · rw [E.beq_eq h]
  · rw [E.beq_eq h]
  · rfl
  · rw [h.1.1.1, h.1.1.2, ctsEq_eq h.1.2, E.beq_eq h.2]
  · rw [h.1, h.2]
  · rw [h.1.1.1, h.1.1.2, E.beq_eq h.1.2, E.beq_eq h.2]
  · rw [h.1.1.1, h.1.1.2, E.beq_eq h.1.2, h.2]
  · rw [h.1.1.1.1.1, h.1.1.1.1.2, ctsEq_eq h.1.1.1.2, E.beq_eq h.1.1.2, E.beq_eq h.1.2, h.2]
  · rw [h.1, listEq_eq (fun _ _ h => capEq_eq h) h.2]
  · rw [litEq_eq h]
def SV.beq : SV → SV → Bool
  | .sc a, .sc b => a.beq b
  | .agg a, .agg b => listEq SC.beq a b
  | _, _ => false
theorem SV.beq_eq {a b : SV} (h : a.beq b = true) : a = b := by
  cases a <;> cases b <;> simp only [SV.beq, Bool.false_eq_true] at h
  · rw [SC.beq_eq h]
  · rw [listEq_eq (fun _ _ h => SC.beq_eq h) h]
def Cont.beq : Cont → Cont → Bool
  | .dead, .dead => true
  | .box a, .box b => listEq SC.beq a b
  | .row a, .row b => a.beq b
  | _, _ => false
def Blk.beq (a b : Blk) : Bool := Nat.beq a.ver b.ver && (a.own == b.own) && (a.fr == b.fr) && Nat.beq a.ety b.ety && (a.ag == b.ag) && ctsEq a.cs b.cs && a.cont.beq b.cont
theorem Cont.beq_eq {a b : Cont} (h : a.beq b = true) : a = b := by
  cases a <;> cases b <;> simp only [Cont.beq, Bool.false_eq_true] at h
  · rfl
  · rw [listEq_eq (fun _ _ h => SC.beq_eq h) h]
  · rw [E.beq_eq h]
theorem Blk.beq_eq {a b : Blk} (h : a.beq b = true) : a = b := by
  simp only [Blk.beq, Bool.and_eq_true, Nat.beq_eq, beq_iff_eq] at h
  obtain ⟨⟨⟨⟨⟨⟨h1, h2⟩, h3⟩, h4⟩, h5⟩, h6⟩, h7⟩ := h
  cases a
  cases b
  simp only at h1 h2 h3 h4 h5 h6 h7
  rw [h1, h2, h3, h4, h5, ctsEq_eq h6, Cont.beq_eq h7]
def framesEq (a b : List (List SV)) : Bool := listEq (listEq SV.beq) a b
theorem framesEq_eq {a b : List (List SV)} (h : framesEq a b = true) : a = b := listEq_eq (fun _ _ h => listEq_eq (fun _ _ h => SV.beq_eq h) h) h
def heapEq (a b : List Blk) : Bool := listEq Blk.beq a b
theorem heapEq_eq {a b : List Blk} (h : heapEq a b = true) : a = b := listEq_eq (fun _ _ h => Blk.beq_eq h) h

/-! ### Instances -/
def instMv (n : Nat) (σ : List E) : Mv := ⟨E.subst n σ, fun b v => some (b, v)⟩
def instF (μ : Mv) (f : List (List SV)) : List (List SV) := f.map (·.map (·.mv μ))
def instH (μ : Mv) (h : List Blk) : List Blk := h.map fun b => b.mv μ b.ver

section
variable {Γ : CEnv} {gt : GT} {ρ ρ' : List TV} {hp : List Blk} {as : List Value} {M Mf : Mem} {μ : Mv}
structure Mv.Un (Γ : CEnv) (ρ ρ' : List TV) (μ : Mv) : Prop where
  e : ∀ e, (μ.e e).den Γ ρ' = e.den Γ ρ
  ref : ∀ b v, μ.ref b v = some (b, v)
theorem Mv.Un.caps (h : Mv.Un Γ ρ ρ' μ) : ∀ l, μ.caps l = some l
  | [] => rfl
  | (b, v) :: l => by simp only [Mv.caps, h.ref, Mv.Un.caps h l]
theorem Mv.Un.refTo (h : Mv.Un Γ ρ ρ' μ) {b v : Nat} {X Y : Blk → Value → Prop} (r : RefTo (instH μ hp) as b v X) (k : ∀ blk va, X (blk.mv μ blk.ver) va → Y blk va) : RefTo hp as b v Y := by
  obtain ⟨blk', va, h1, h2, h3, h4⟩ := r
  unfold instH at h1
  rw [List.getElem?_map] at h1
  cases hb : hp[b]? with
  | none => rw [hb] at h1; cases h1
  | some blk =>
    rw [hb] at h1
    simp only [Option.map_some, Option.some.injEq] at h1
    subst h1
    exact ⟨blk, va, hb, h2, h3, fun e => k blk va (h4 e)⟩
theorem Mv.Un.ptr (h : Mv.Un Γ ρ ρ' μ) {b v : Nat} {i : Int} {c : Nat} {u : Value} (r : RepPtr Γ ρ' (instH μ hp) as b v i c u) : RepPtr Γ ρ hp as b v i c u :=
  h.refTo r fun blk va ⟨n, g, h1, h2, h3, h4, h5⟩ => ⟨n, g, by rw [← Blk.mv_len (μ := μ) h.e blk blk.ver]; exact h1, h2, h3, h4, by rw [← Blk.mv_size (μ := μ) blk blk.ver]; exact h5⟩
theorem row_mv {blk : Blk} {ver : Nat} (h : ∃ e, (blk.mv μ ver).cont = .row e) : ∃ e, blk.cont = .row e := by
  obtain ⟨e, he⟩ := h
  cases hc : blk.cont <;> simp only [Blk.mv, hc, Cont.mv, reduceCtorEq] at he
  exact ⟨_, rfl⟩
theorem RepC.un (h : Mv.Un Γ ρ ρ' μ) {s : SC} {v : Value} (r : RepC Γ ρ' (instH μ hp) as M Mf (s.mv μ) v) : RepC Γ ρ hp as M Mf s v := by
  cases s with
  | undef => trivial
  | int k e => simp only [SC.mv, RepC, h.e] at r; exact r
  | bool e => simp only [SC.mv, RepC, h.e] at r; exact r
  | str e => simp only [SC.mv, RepC, h.e] at r; exact r
  | nil => exact r
  | imm fr ag cs e => simp only [SC.mv, RepC, h.e] at r; exact r
  | own b ver =>
    simp only [SC.mv, h.ref] at r
    exact ⟨r.1, h.refTo r.2 fun blk va ⟨x, hx⟩ => ⟨x, row_mv hx⟩⟩
  | sub b ver lo hi =>
    simp only [SC.mv, h.ref] at r
    refine ⟨r.1, h.refTo r.2 fun blk va ⟨⟨n, h1, h2, h3, h4, a, cap, h5, h6, h7, h8, h9⟩, hx⟩ => ⟨⟨n, ?_, ?_, ?_, ?_, a, cap, ?_, ?_, h7, h8, ?_⟩, row_mv hx⟩⟩
    · rw [← Blk.mv_len (μ := μ) h.e blk blk.ver]; exact h1
    all_goals simp only [h.e] at *
    · exact h2
    · exact h3
    · exact h4
    · exact h5
    · exact h6
    · rcases h9 with h9 | ⟨g, l, c, h9, h10⟩
      · exact .inl h9
      · exact .inr ⟨g, l, c, h9, by rw [← Blk.mv_size (μ := μ) blk blk.ver]; exact h10⟩
  | ptr b ver i c =>
    simp only [SC.mv, h.ref, RepC, h.e] at r
    exact ⟨r.1, h.ptr r.2⟩
  | pel fr ag cs e i c => simp only [SC.mv, RepC, h.e] at r; exact r
  | fn f caps =>
    simp only [SC.mv, h.caps] at r
    obtain ⟨vs, h1, h2⟩ := r
    exact ⟨vs, h1, h2.mono fun _ _ hx => ⟨hx.1, h.ptr hx.2⟩⟩
  | lit u => exact r
theorem All2.unmap {α β γ : Type} {R : γ → β → Prop} {S : α → β → Prop} {f : α → γ} {xs : List α} {ys : List β} (h : All2 R (xs.map f) ys) (k : ∀ x y, R (f x) y → S x y) : All2 S xs ys :=
  ⟨by simpa using h.1, fun i x y hx hy => k x y (h.2 i (f x) y (by rw [List.getElem?_map, hx]; rfl) hy)⟩
theorem RepCs.un (h : Mv.Un Γ ρ ρ' μ) {s : List SC} {v : List Value} (r : RepCs Γ ρ' (instH μ hp) as M Mf (s.map (·.mv μ)) v) : RepCs Γ ρ hp as M Mf s v := All2.unmap r fun _ _ => RepC.un h
theorem RepV.un (h : Mv.Un Γ ρ ρ' μ) {s : SV} {v : Value} (r : RepV Γ ρ' (instH μ hp) as M Mf (s.mv μ) v) : RepV Γ ρ hp as M Mf s v := by
  cases s with
  | sc s => exact RepC.un h r
  | agg cs => obtain ⟨vs, h1, h2⟩ := r; exact ⟨vs, h1, RepCs.un h h2⟩
  | tup ps =>
    obtain ⟨vs, h1, h2⟩ := r
    refine ⟨vs, h1, All2.unmap h2 fun x y hx => ?_⟩
    unfold RepP at *
    dsimp only at hx
    split at hx
    · obtain ⟨us, k1, k2⟩ := hx; rw [if_pos ‹_›]; exact ⟨us, k1, RepCs.un h k2⟩
    · obtain ⟨s, k1, k2⟩ := hx
      rw [if_neg ‹_›]
      cases hl : x.2 with
      | nil => rw [hl] at k1; simp at k1
      | cons y ys =>
        rw [hl] at k1
        simp only [List.map_cons, List.cons.injEq, List.map_eq_nil_iff] at k1
        obtain ⟨rfl, rfl⟩ := k1
        exact ⟨y, rfl, RepC.un h k2⟩
theorem BlkRel.un (h : Mv.Un Γ ρ ρ' μ) {B : Nat} {w : World} {blk : Blk} {va : Value} {ver : Nat} (r : BlkRel Γ ρ' (instH μ hp) as M Mf B w (blk.mv μ ver) va) : BlkRel Γ ρ hp as M Mf B w blk va := by
  unfold BlkRel at *
  cases hc : blk.cont with
  | dead => trivial
  | box cs =>
    simp only [Blk.mv, hc, Cont.mv] at r ⊢
    obtain ⟨g, cur, h1, h2, h3, h4⟩ := r
    exact ⟨g, cur, h1, h2, h3, RepCs.un h h4⟩
  | row e =>
    simp only [Blk.mv, hc, Cont.mv, h.e] at r ⊢
    exact r

theorem Rel.un {B : Nat} {G : Nat → Prop} {st : SS} {vss : List (Array Value)} {w : World} (h : Mv.Un Γ ρ ρ' μ) (r : Rel Γ gt ρ' B G st as vss w) {f : List (List SV)} {hp : List Blk} (hf : instF μ f = st.frames) (hh : instH μ hp = st.heap) (l : Nat) :
    Rel Γ gt ρ B G ⟨f, hp, ρ.length, l⟩ as vss w := by
  have r1 := r.frames
  rw [← hf, ← hh] at r1
  have get : ∀ (b : Nat) (blk : Blk), hp[b]? = some blk → st.heap[b]? = some (blk.mv μ blk.ver) := fun b blk hb => by rw [← hh]; unfold instH; rw [List.getElem?_map, hb]; rfl
  refine ⟨rfl, All2.unmap r1 fun _ _ hx => All2.unmap hx fun _ _ hy => RepV.un h hy, by rw [r.alen, ← hh]; simp [instH], fun b blk va h1 h2 => ?_, fun b blk va g h1 h2 hl hg => ?_, fun b b' k k' v v' g h1 h2 hl hg h3 h4 hl' hg' => ?_, r.base, r.gs, r.globs⟩
  · have := r.blks b _ va (get b blk h1) h2
    rw [← hh] at this
    exact BlkRel.un h this
  · exact r.own b _ va g (get b blk h1) h2 (by rw [Blk.mv_live]; exact hl) hg
  · exact r.dist b b' _ _ v v' g (get b k h1) h2 (by rw [Blk.mv_live]; exact hl) hg (get b' k' h3) h4 (by rw [Blk.mv_live]; exact hl') hg'
end

/-! ### What is open at a head -/
def genSC (j : Nat) : SC → SC × List E
  | .int k e => (.int k (.v j), [e])
  | .bool e => (.bool (.v j), [e])
  | .str e => (.str (.v j), [e])
  | .imm fr ag cs e => (.imm fr ag cs (.v j), [e])
  | s => (s, [])
def genCells (j : Nat) : List SC → List SC × List E
  | [] => ([], [])
  | s :: r => match genSC j s with
    | (s', es) => match genCells (j + es.length) r with
      | (r', fs) => (s' :: r', es ++ fs)
def genSV (j : Nat) : SV → SV × List E
  | .sc s => match genSC j s with
    | (s', es) => (.sc s', es)
  | .agg cs => match genCells j cs with
    | (cs', es) => (.agg cs', es)
  | s => (s, [])
def genFrame (flags : List Nat) (j i : Nat) : List SV → List SV × List E
  | [] => ([], [])
  | s :: r => match (if flags.any (Nat.beq i) then genSV j s else (s, [])) with
    | (s', es) => match genFrame flags (j + es.length) (i + 1) r with
      | (r', fs) => (s' :: r', es ++ fs)
def genBox (flags : List (Nat × Nat)) (b j c : Nat) : List SC → List SC × List E
  | [] => ([], [])
  | s :: r => match (if flags.any (capEq (b, c)) then genSC j s else (s, [])) with
    | (s', es) => match genBox flags b (j + es.length) (c + 1) r with
      | (r', fs) => (s' :: r', es ++ fs)
def genHeap (rows : List Nat) (cells : List (Nat × Nat)) (j b : Nat) : List Blk → List Blk × List E
  | [] => ([], [])
  | k :: r => match (match k.cont with
      | .row e => if rows.any (Nat.beq b) then ({ k with cont := .row (.v j) }, [e]) else (k, [])
      | .box cs => match genBox cells b j 0 cs with
        | (cs', es) => ({ k with cont := .box cs' }, es)
      | .dead => (k, [])) with
    | (k', es) => match genHeap rows cells (j + es.length) (b + 1) r with
      | (r', fs) => (k' :: r', es ++ fs)
def gen (h : Head) (n : Nat) (st : SS) : List (List SV) × List Blk × List E := match st.frames with
  | [] => ([], [], [])
  | f :: fs => match genFrame h.slots n 0 f with
    | (f', es) => match genHeap h.rows h.cells (n + es.length) 0 st.heap with
      | (hp, gs) => (f' :: fs, hp, es ++ gs)
def isInst (n : Nat) (σ : List E) (f : List (List SV)) (hp : List Blk) (st : SS) : Bool := framesEq (instF (instMv n σ) f) st.frames && heapEq (instH (instMv n σ) hp) st.heap
/-- The state at a loop's entry, and behind a round, as an instance of the head (f, hp). -/
def match1 (h : Head) (n : Nat) (f : List (List SV)) (hp : List Blk) (st : SS) : Option (List E) := match norm h st with
  | some st' => match gen h n st' with
    | (_, _, σ) => if isInst n σ f hp st' then some σ else none
  | none => none

section
variable {Γ : CEnv} {gt : GT} {ρ ρ' : List TV} {B : Nat} {G : Nat → Prop} {st : SS} {as : List Value} {vss : List (Array Value)} {w : World}
theorem match1_rel {h : Head} {n : Nat} {f : List (List SV)} {hp : List Blk} {σ : List E} (hm : match1 h n f hp st = some σ) (r : Rel Γ gt ρ' B G st as vss w) (hn : ρ.length = n) (hpre : ∀ i, i < n → ρ'.getD i (.int 0) = ρ.getD i (.int 0)) (l : Nat) :
    ∃ as', Rel Γ gt (ρ ++ σ.map (·.den Γ ρ')) B G ⟨f, hp, n + σ.length, l⟩ as' vss w := by
  unfold match1 at hm
  split at hm
  · rename_i st' hst
    split at hm
    rename_i x1 x2 σ' hg
    split at hm
    · rename_i hi
      simp only [Option.some.injEq] at hm
      subst hm
      obtain ⟨as', r'⟩ := norm_rel r hst
      unfold isInst at hi
      simp only [Bool.and_eq_true] at hi
      have un : Mv.Un Γ (ρ ++ σ'.map (·.den Γ ρ')) ρ' (instMv n σ') := ⟨fun e => E.subst_den hn hpre e, fun _ _ => rfl⟩
      have := r'.un un (framesEq_eq hi.1) (heapEq_eq hi.2) l
      rw [List.length_append, List.length_map, hn] at this
      exact ⟨as', this⟩
    · cases hm
  · cases hm
end
end Go.Proofs.YtccpepheooleoaaDoor
