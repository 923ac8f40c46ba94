/- Symbolic runs, part n: the tree of what a run asks, and what it says; contracts. -/
import Derived.Test.YtccpepheooleoaaDoorSm
import Derived.Test.YtccpepheooleoaaDoorMix
namespace Go.Proofs.YtccpepheooleoaaDoor
set_option linter.unusedSimpArgs false
set_option linter.unusedVariables false
set_option linter.unusedSectionVars false
open Go.RowKit

inductive Tree where
  | ret (e : E)
  | req (b : E) (t : Tree)
  | br (b : E) (x y : Tree)
  | call (f : Nat) (args : List E) (t : Tree)
  | loop (init : List E) (body : Tree)
  | back (l : Nat) (args : List E)
  | bad (why : Nat)

def Tree.den (Γ : CEnv) (R : TV → Prop) : Tree → List TV → List (List TV → Prop) → Prop
  | .ret e, ρ, _ => R (e.den Γ ρ)
  | .req b t, ρ, L => (b.den Γ ρ).asBool = true ∧ t.den Γ R ρ L
  | .br b x y, ρ, L => ((b.den Γ ρ).asBool = true → x.den Γ R ρ L) ∧ ((b.den Γ ρ).asBool = false → y.den Γ R ρ L)
  | .call f args t, ρ, L => Γ.pre f (args.map (·.den Γ ρ)) ∧ ∀ r, Γ.post f (args.map (·.den Γ ρ)) r → t.den Γ R (ρ ++ [r]) L
  | .loop init body, ρ, L => ∃ (I : List TV → Prop) (m : List TV → Nat), I (init.map (·.den Γ ρ)) ∧ ∀ xs, xs.length = init.length → I xs → body.den Γ R (ρ ++ xs) (L ++ [fun ys => I ys ∧ m ys < m xs])
  | .back l args, ρ, L => ∃ p, L[l]? = some p ∧ p (args.map (·.den Γ ρ))
  | .bad _, _, _ => False

def reqs : List E → Tree → Tree
  | [], t => t
  | e :: l, t => match e with
    | .bool true => reqs l t
    | e => .req e (reqs l t)
theorem reqs_den {Γ : CEnv} {R : TV → Prop} {ρ : List TV} {L : List (List TV → Prop)} : ∀ {l : List E} {t : Tree}, (reqs l t).den Γ R ρ L → Holds Γ ρ l ∧ t.den Γ R ρ L
  | [], t, h => ⟨(fun e he => by cases he), h⟩
  | e :: l, t, h => by
    unfold reqs at h
    split at h
    · obtain ⟨h1, h2⟩ := reqs_den h
      refine ⟨fun x hx => ?_, h2⟩
      rcases List.mem_cons.1 hx with rfl | hx
      · rfl
      · exact h1 x hx
    · obtain ⟨h0, h1⟩ := h
      obtain ⟨h2, h3⟩ := reqs_den h1
      refine ⟨fun x hx => ?_, h3⟩
      rcases List.mem_cons.1 hx with rfl | hx
      · exact h0
      · exact h2 x hx

/-! ### Contracts -/
def full (w : World) : Mem := fun g o => w.heap[g]? = some o
def GlobOk (Γ : CEnv) (gt : GT) (w : World) : Prop := ∀ g ag cs, (g, ag, cs) ∈ gt → RepT (full w) (.slice ag cs) (Γ.glob g) (.slice (some ⟨g, 0, none⟩) (Γ.glob g).asList.length (Γ.glob g).asList.length) ∧ 0 < (Γ.glob g).asList.length

structure Sig where
  f : FuncId
  no : Nat
  args : List (Bool × List CT)
  res : List (Bool × List (CT × Option TypeId))

def ArgRep (w : World) (x : Bool × List CT) (t : TV) (v : Value) : Prop := if x.1 then ∃ vs : Array Value, v = .agg vs ∧ CellsT (full w) true x.2 t vs.toList else ∃ ct, x.2 = [ct] ∧ RepT (full w) ct t v
def ArgsRep (w : World) (as : List (Bool × List CT)) (ts : List TV) (vs : List Value) : Prop :=
  as.length = ts.length ∧ as.length = vs.length ∧ ∀ (i : Nat) x t v, as[i]? = some x → ts[i]? = some t → vs[i]? = some v → ArgRep w x t v

/-- One cell of a result: a row of the caller's own from now on, or what stays. -/
def ResC (B : Nat) (w : World) (G : Nat → Prop) (x : CT × Option TypeId) (t : TV) (v : Value) : Prop := match x with
  | (.slice ag cs, some e) => ∃ xs, w.ownsRow B e cs.length v t.asList.length xs ∧ RowT (fresh w G B) ag cs t.asList xs ∧ ∀ g, gOf v = some g → G g
  | (ct, _) => RepT (fresh w G B) ct t v
def ownCells (cs : List (CT × Option TypeId)) (vs : List Value) : List Nat := (cs.zip vs).filterMap fun
  | ((.slice _ _, some _), v) => gOf v
  | _ => none
def flatV (x : Bool × List (CT × Option TypeId)) (v : Value) : List Value := if x.1 then v.cells.toList else [v]
def flatVals : List (Bool × List (CT × Option TypeId)) → List Value → List Value
  | x :: r, v :: vs => flatV x v ++ flatVals r vs
  | _, _ => []
def resTypes : List (Bool × List (CT × Option TypeId)) → List (CT × Option TypeId)
  | [] => []
  | x :: r => x.2 ++ resTypes r
def cellsTV (ag : Bool) (t : TV) : List (CT × Option TypeId) → Nat → List ((CT × Option TypeId) × TV)
  | [], _ => []
  | x :: r, c => (x, elemCell ag t c) :: cellsTV ag t r (c + 1)
def flatTV (single : Bool) (r : TV) : List (Bool × List (CT × Option TypeId)) → Nat → List ((CT × Option TypeId) × TV)
  | [], _ => []
  | x :: rs, i => cellsTV x.1 (if single then r else r.cell i) x.2 0 ++ flatTV single r rs (i + 1)
def ResShape (x : Bool × List (CT × Option TypeId)) (v : Value) : Prop := if x.1 then ∃ a : Array Value, v = .agg a ∧ a.size = x.2.length else x.2.length = 1
/-- The results: one, or a tuple of them. -/
def ResRep (B : Nat) (w : World) (G : Nat → Prop) (res : List (Bool × List (CT × Option TypeId))) (r : TV) (v : Value) : Prop :=
  ∃ vs : List Value, (v = if res.length = 1 then vs.headD undef else .tuple vs.toArray) ∧ vs.length = res.length ∧ (∀ (i : Nat) x u, res[i]? = some x → vs[i]? = some u → ResShape x u) ∧
    (flatTV (Nat.beq res.length 1) r res 0).length = (flatVals res vs).length ∧ (∀ (i : Nat) x u, (flatTV (Nat.beq res.length 1) r res 0)[i]? = some x → (flatVals res vs)[i]? = some u → ResC B w G x.1 x.2 u) ∧
    (ownCells (resTypes res) (flatVals res vs)).Nodup

def Enters (P : Program) (f : FuncId) : Prop := ∃ fn c, P.funcs[f]? = some fn ∧ (fn.name == "runtime.NumGoroutine") = false ∧ fn.body = some c
theorem Enters.run {P : Program} {f : FuncId} (h : Enters P f) (args : Array Value) (w : World) : (callFunc f args).run P w = .ok (.enter f args) w := by
  obtain ⟨fn, c, h1, h2, h3⟩ := h
  unfold callFunc
  simp only [Sem.run_bind, run_program, Result.andThen_ok, h1]
  rw [if_neg (by rw [h2]; simp), if_neg (by rw [h3]; simp)]
  rfl
structure Contract (P : Program) (Γ : CEnv) (gt : GT) (s : Sig) (pre : List TV → Prop) (post : List TV → TV → Prop) : Prop where
  enters : Enters P s.f
  calls : ∀ (w : World) (ts : List TV) (vs : Array Value), GlobOk Γ gt w → ArgsRep w s.args ts vs.toList → pre ts →
    Calls P s.f vs w fun e w' => ∃ r v G', e = .returned v ∧ post ts r ∧ Below w.heap.size w w' ∧ (∀ g, G' g → w.heap.size ≤ g ∧ g < w'.heap.size) ∧ ResRep w.heap.size w' G' s.res r v
end Go.Proofs.YtccpepheooleoaaDoor
