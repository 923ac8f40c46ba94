/- Symbolic runs, part w: the contract of a function, from what its run asks. -/
import Derived.Test.YtccpepheooleoaaDoorSv
namespace Go.Proofs.YtccpepheooleoaaDoor
set_option linter.unusedSimpArgs false
set_option linter.unusedVariables false
set_option linter.unusedSectionVars false
open Go.RowKit

def initCells (te : E) : List CT → Nat → List SC
  | [], _ => []
  | ct :: r, c => scOf false ct (elemE true te c) :: initCells te r (c + 1)
def initArg (x : Bool × List CT) (i : Nat) : SV := if x.1 then .agg (initCells (.v i) x.2 0) else match x.2 with
  | [ct] => .sc (scOf false ct (.v i))
  | _ => .sc .undef
def initArgs : List (Bool × List CT) → Nat → List SV
  | [], _ => []
  | x :: r, i => initArg x i :: initArgs r (i + 1)
def initSt (s : Sig) (fn : Func) : SS := ⟨[padF fn (initArgs s.args 0)], [], s.args.length, 0⟩
def fnTree (X : Cx) (depth : Nat) (s : Sig) (fn : Func) (c : Code) : Tree := codeTree X (inlTree X depth) s.f c (initSt s fn) fun e st' => match e with
  | .exit _ => .bad 70
  | _ => match resOf X.P st' fn.results.toList with
    | some l => match retE s st' l with
      | some e => .ret e
      | none => .bad 71
    | none => .bad 72

section
variable {Γ : CEnv} {w : World}
theorem initCells_rep {ρ : List TV} {M Mf : Mem} {te : E} : ∀ {cs : List CT} {c : Nat} {vs : List Value}, vs.length = cs.length → (∀ j (hj : j < cs.length), ∃ v, vs[j]? = some v ∧ RepT M cs[j] (elemCell true (te.den Γ ρ) (c + j)) v) → RepCs Γ ρ [] [] M Mf (initCells te cs c) vs
  | [], c, vs, hl, h => by
    have : vs = [] := List.eq_nil_of_length_eq_zero hl
    subst this
    exact All2.nil
  | ct :: cs, c, [], hl, h => by simp at hl
  | ct :: cs, c, v :: vs, hl, h => by
    refine All2.cons ?_ (initCells_rep (by simpa using hl) fun j hj => ?_)
    · obtain ⟨u, h1, h2⟩ := h 0 (by simp)
      simp at h1
      subst h1
      refine scOf_rep (fr := false) ?_
      rw [elemE_den]
      exact h2
    · obtain ⟨u, h1, h2⟩ := h (j + 1) (by simpa using hj)
      refine ⟨u, by simpa using h1, ?_⟩
      rw [show c + 1 + j = c + (j + 1) by omega]
      exact h2
theorem initArg_rep {ρ : List TV} {G : Nat → Prop} {B : Nat} (hG : ∀ g, ¬ G g) {x : Bool × List CT} {i : Nat} {t : TV} {v : Value} (ht : ρ[i]? = some t) (h : ArgRep w x t v) : RepV Γ ρ [] [] (stable w G) (fresh w G B) (initArg x i) v := by
  have hle : Mem.le (full w) (stable w G) := fun g o h => ⟨h, hG g⟩
  have hden : (E.v i).den Γ ρ = t := by simp [E.den, ht]
  unfold ArgRep at h
  unfold initArg
  split at h
  · rename_i hx
    rw [if_pos hx]
    obtain ⟨vs, rfl, h1, h2⟩ := h
    refine ⟨vs, rfl, initCells_rep h1 fun j hj => ?_⟩
    obtain ⟨u, k1, k2⟩ := h2 j hj
    refine ⟨u, k1, ?_⟩
    rw [Nat.zero_add, hden]
    exact k2.mono hle
  · rename_i hx
    rw [if_neg hx]
    obtain ⟨ct, hct, h1⟩ := h
    rw [hct]
    dsimp only
    refine scOf_rep (fr := false) ?_
    rw [hden]
    exact h1.mono hle
theorem initArgs_rep {ρ : List TV} {G : Nat → Prop} {B : Nat} (hG : ∀ g, ¬ G g) : ∀ {xs : List (Bool × List CT)} {ts : List TV} {vs : List Value} {i : Nat}, (∀ j : Nat, ts[j]? = ρ[i + j]?) → ArgsRep w xs ts vs → All2 (RepV Γ ρ [] [] (stable w G) (fresh w G B)) (initArgs xs i) vs
  | [], ts, vs, i, hρ, h => by
    have : vs = [] := List.eq_nil_of_length_eq_zero h.2.1.symm
    subst this
    exact All2.nil
  | x :: xs, [], vs, i, hρ, h => by have := h.1; simp at this
  | x :: xs, t :: ts, [], i, hρ, h => by have := h.2.1; simp at this
  | x :: xs, t :: ts, v :: vs, i, hρ, h => by
    refine All2.cons (initArg_rep hG (t := t) ?_ (h.2.2 0 x t v rfl rfl rfl)) (initArgs_rep (ts := ts) hG (fun j => ?_) ⟨by have := h.1; simpa using this, by have := h.2.1; simpa using this, fun j y u z hy hu hz => h.2.2 (j + 1) y u z (by simpa using hy) (by simpa using hu) (by simpa using hz)⟩)
    · have := hρ 0
      simpa using this.symm
    · have := hρ (j + 1)
      rw [show i + 1 + j = i + (j + 1) by omega, ← this]
      simp
/-- A function's contract, from what its run asks. -/
theorem contract_of {X : Cx} (hX : CxOk X Γ) (depth : Nat) (s : Sig) {fn : Func} {c : Code} (hf : X.P.funcs[s.f]? = some fn) (hname : (fn.name == "runtime.NumGoroutine") = false) (hc : fn.body = some c) {pre : List TV → Prop} {post : List TV → TV → Prop}
    (h : ∀ ts, ts.length = s.args.length → pre ts → (fnTree X depth s fn c).den Γ (post ts) ts []) : Contract X.P Γ X.gt s pre post where
  enters := ⟨fn, c, hf, hname, hc⟩
  calls := by
    intro w ts vs hglob hargs hpre
    have hG : ∀ g, ¬ (fun _ : Nat => False) g := fun _ h => h
    have hfr := initArgs_rep (Γ := Γ) (B := w.heap.size) hG (ρ := ts) (i := 0) (fun j => by rw [Nat.zero_add]) hargs
    have r : Rel Γ X.gt ts w.heap.size (fun _ => False) (initSt s fn) [] [vs ++ Array.replicate (fn.ntmps - vs.size) undef] w :=
      ⟨hargs.1, All2.cons (pad_rep rfl hfr) All2.nil, rfl, fun b blk va h => by simp [initSt] at h, fun b blk va g h => by simp [initSt] at h, fun b b' blk blk' va va' g h => by simp [initSt] at h, Nat.le_refl _, fun g h => h.elim,
        fun g ag cs hg => ⟨(hglob g ag cs hg).1.mono fun g o h => ⟨h, fun h => h⟩, (hglob g ag cs hg).2⟩⟩
    refine calls_of_wp hf hc ?_
    have hnp : ∀ c a w', ¬ bodyPost X.P fn (fun e w' => ∃ r v G', e = .returned v ∧ post ts r ∧ Below w.heap.size w w' ∧ (∀ g, G' g → w.heap.size ≤ g ∧ g < w'.heap.size) ∧ ResRep w.heap.size w' G' s.res r v) (.panic c) a w' := by
      intro c a w' h
      obtain ⟨_, _, v, _, h, _⟩ := h
      cases h
    refine codeTree_sound (L := []) (f := s.f) (st := initSt s fn) (a := ⟨vs ++ Array.replicate (fn.ntmps - vs.size) undef, []⟩) hX (inl_ok hX depth) hnp rfl r (h ts hargs.1.symm hpre) ?_
    intro e st' ρ' L' as' G' a' w' h0 h1 h2 h3 h4 h5 h6
    have fin : ∀ {t : Tree}, (match resOf X.P st' fn.results.toList with
      | some l => match retE s st' l with
        | some e => Tree.ret e
        | none => .bad 71
      | none => .bad 72).den Γ (post ts) ρ' L' → a'.defers = [] ∧ ∃ v, (results fn a'.tmps).run X.P w' = .ok v w' ∧ ∃ r u G', Ending.returned v = .returned u ∧ post ts r ∧ Below w.heap.size w w' ∧ (∀ g, G' g → w.heap.size ≤ g ∧ g < w'.heap.size) ∧ ResRep w.heap.size w' G' s.res r u := by
      intro _ h6
      split at h6
      · rename_i l hl'
        split at h6
        · rename_i e hre
          obtain ⟨us, k1, k2⟩ := results_sound (P := X.P) (fn := fn) h4 hl'
          obtain ⟨G'', k3, k4⟩ := retE_sound h4 hre k2
          exact ⟨h3, valOf us, k1, e.den Γ ρ', valOf us, G'', rfl, h6, h5, k3, k4⟩
        · exact h6.elim
      · exact h6.elim
    cases e with
    | exit j => exact h6.elim
    | normal => exact fin (t := .bad 0) h6
    | ret => exact fin (t := .bad 0) h6
end
#print axioms contract_of
end Go.Proofs.YtccpepheooleoaaDoor
