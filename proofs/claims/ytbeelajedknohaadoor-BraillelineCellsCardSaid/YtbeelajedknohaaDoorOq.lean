/- Arguments that came in, opened: structs of one-cell fields. -/
import Derived.Test.YtbeelajedknohaaDoorRows
import Derived.Test.YtbeelajedknohaaDoorFc
import Derived.Lib.SmallJoins
import Derived.ChangeOld
namespace Go.Proofs.YtbeelajedknohaaDoor
set_option linter.unusedSimpArgs false
set_option linter.unusedVariables false
set_option linter.unusedSectionVars false
open Go.RowKit Go.Joins Go.ChangeShapes Go.WideShapes Go.Deep

theorem ownT : ownKnob Tryd.prog.godebug = none := by kernel_rfl
theorem laidT : laidOutB Tryd.prog = true := by kernel_rfl

section
variable {H : Type} {enc : TypeId × Value → H} {P : Program} {w : World} {base b0 : Nat} {spare : Nat → Bool} {held : Bool} {r : Reach} {t : TypeId} {v : Value} {d : DataW H} {p : List MemPlace}
theorem open_struct {fs : Array Field} (ht : P.underlying t = some (.struct fs)) (hone : oneCellFields P fs = true) (hC : P.cellsOf t = fs.size) (hv : Value.okWide P w r b0 t v) (h : DataW.Trod enc P w base spare held t v d p) :
    ∃ cs : List Value, v = .agg cs.toArray ∧ cs.length = fs.size ∧ ∀ (i : Nat) (f : Field), fs[i]? = some f → ∃ n y c, cs[i]? = some c ∧ DataW.trod enc P w base spare held n f.type [c] = some y := by
  obtain ⟨cs, rfl, hsz⟩ := okWide_struct ht hv
  obtain ⟨l⟩ := cs
  have hl : l.length = fs.size := hsz.trans hC
  refine ⟨l, rfl, hl, fun i f hif => ?_⟩
  obtain ⟨fuel, hf⟩ := h
  obtain ⟨xs, n, _, _, _, hlen, hg⟩ := DataW.trod_struct ht hf
  obtain ⟨o1, o2⟩ := Go.Deep.hone_of hone i f hif
  have hi : i < l.length := by rw [hl]; exact (Array.getElem?_eq_some_iff.1 hif).1
  have h1 := hg i f hif
  simp only [Value.cells] at h1
  rw [o1, o2] at h1
  have h2 : (l.drop i).take 1 = [l[i]] := by rw [List.drop_eq_getElem_cons hi]; rfl
  rw [show (List.drop i (⟨l⟩ : Array Value).toList) = l.drop i from rfl, h2] at h1
  have hx : i < xs.length := by rw [hlen, ← hl]; exact hi
  exact ⟨n, xs[i], l[i], List.getElem?_eq_getElem hi, h1.trans (List.getElem?_eq_getElem hx)⟩
end
end Go.Proofs.YtbeelajedknohaaDoor
