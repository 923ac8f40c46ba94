/- A cursor and bounds that came in. -/
import Derived.Test.YtghhanophenhbaaOpen
import Derived.Test.YtghhanophenhbaaCurA
namespace Go.Proofs.Ytghhanophenhbaa
set_option linter.unusedSimpArgs false
set_option linter.unusedVariables false
set_option linter.unusedSectionVars false
open Go.RowKit Go.Joins Go.ChangeShapes Go.WideShapes Go.Deep

theorem cellsCur : Try.prog.cellsOf 23 = 3 := by kernel_rfl
theorem cellsBnd : Try.prog.cellsOf 25 = 5 := by kernel_rfl

section
variable {H : Type} {enc : TypeId × Value → H} {w : World} {base b0 : Nat} {spare : Nat → Bool} {held : Bool} {r : Reach} {v : Value} {d : DataW H} {p : List MemPlace}
theorem open_cur (hv : Value.okWide Try.prog w r b0 23 v) (h : DataW.Trod enc Try.prog w base spare held 23 v d p) : ∃ (x y : Int) (b : Bool), v = cur x y b := by
  obtain ⟨cs, rfl, hl, hg⟩ := open_struct Try.underlying23 (by kernel_rfl) cellsCur hv h
  match cs, hl with
  | [c0, c1, c2], _ =>
    obtain ⟨_, _, _, e0, h0⟩ := hg 0 _ rfl
    obtain ⟨_, _, _, e1, h1⟩ := hg 1 _ rfl
    obtain ⟨_, _, _, e2, h2⟩ := hg 2 _ rfl
    cases e0; cases e1; cases e2
    obtain ⟨x, e0, _, _⟩ := DataW.trod_int Try.underlying3 h0
    obtain ⟨y, e1, _, _⟩ := DataW.trod_int Try.underlying3 h1
    obtain ⟨b, e2, _⟩ := DataW.trod_bool Try.underlying4 h2
    cases e0; cases e1; cases e2
    exact ⟨x, y, b, rfl⟩
theorem open_bnd (hv : Value.okWide Try.prog w r b0 25 v) (h : DataW.Trod enc Try.prog w base spare held 25 v d p) : ∃ (W H T B : Int) (o : Bool), v = bnd W H T B o := by
  obtain ⟨cs, rfl, hl, hg⟩ := open_struct Try.underlying25 (by kernel_rfl) cellsBnd hv h
  match cs, hl with
  | [c0, c1, c2, c3, c4], _ =>
    obtain ⟨_, _, _, e0, h0⟩ := hg 0 _ rfl
    obtain ⟨_, _, _, e1, h1⟩ := hg 1 _ rfl
    obtain ⟨_, _, _, e2, h2⟩ := hg 2 _ rfl
    obtain ⟨_, _, _, e3, h3⟩ := hg 3 _ rfl
    obtain ⟨_, _, _, e4, h4⟩ := hg 4 _ rfl
    cases e0; cases e1; cases e2; cases e3; cases e4
    obtain ⟨x0, e0, _, _⟩ := DataW.trod_int Try.underlying3 h0
    obtain ⟨x1, e1, _, _⟩ := DataW.trod_int Try.underlying3 h1
    obtain ⟨x2, e2, _, _⟩ := DataW.trod_int Try.underlying3 h2
    obtain ⟨x3, e3, _, _⟩ := DataW.trod_int Try.underlying3 h3
    obtain ⟨b, e4, _⟩ := DataW.trod_bool Try.underlying4 h4
    cases e0; cases e1; cases e2; cases e3; cases e4
    exact ⟨x0, x1, x2, x3, b, rfl⟩
end
end Go.Proofs.Ytghhanophenhbaa
