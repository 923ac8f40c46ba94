/- Written by this repo's own program out of its texts. -/
import Derived.Test.YtlhagkbhojmjpaaDoorTDis
namespace Go.Proofs.YtlhagkbhojmjpaaDoor
set_option linter.unusedSimpArgs false
set_option linter.unusedVariables false
set_option linter.unusedSectionVars false
theorem showC_get {c : List Int} {sz dl i : Nat} (h : i < sz) : (showC c sz dl).getD i 0 = c.getD (dl + i) 0 := by
  unfold showC
  simp only [List.getD_eq_getElem?_getD]
  by_cases hi : dl + i < c.length
  · rw [List.getElem?_append_left (by rw [List.length_take, List.length_drop]; omega), List.getElem?_take_of_lt (by omega), List.getElem?_drop]
  · rw [List.getElem?_append_right (by rw [List.length_take, List.length_drop]; omega), List.getElem?_eq_none (l := c) (by omega), List.getElem?_replicate]
    split <;> rfl
end Go.Proofs.YtlhagkbhojmjpaaDoor

