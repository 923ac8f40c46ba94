/- Written by this repo's own program out of its texts. -/
import Derived.Shelf.Small.Strs
import Derived.Test.YtlhagkbhojmjpaaGreatDoorRMa
import Derived.Test.YtlhagkbhojmjpaaGreatDoorRMc
import Derived.Test.YtlhagkbhojmjpaaGreatDoorRMj
import Derived.Test.YtlhagkbhojmjpaaGreatDoorRMd
import Derived.Test.YtlhagkbhojmjpaaGreatDoorRD1
namespace Go.Proofs.YtlhagkbhojmjpaaGreatDoor
set_option linter.unusedSimpArgs false
set_option linter.unusedVariables false
set_option linter.unusedSectionVars false
open Go.Shelf Go.RowKit
end Go.Proofs.YtlhagkbhojmjpaaGreatDoor
namespace Go.Proofs.YtlhagkbhojmjpaaGreatDoor
set_option linter.unusedSimpArgs false
set_option linter.unusedVariables false
set_option linter.unusedSectionVars false
def badN (n : Int) : Prop := (32 ≤ n ∧ n ≤ 126) ∨ 1114111 < n ∨ (55296 ≤ n ∧ n ≤ 57343)
instance (n : Int) : Decidable (badN n) := by unfold badN; infer_instance
end Go.Proofs.YtlhagkbhojmjpaaGreatDoor
namespace Go.Proofs.YtlhagkbhojmjpaaGreatDoor
set_option linter.unusedSimpArgs false
set_option linter.unusedVariables false
set_option linter.unusedSectionVars false
open Go.RowKit
end Go.Proofs.YtlhagkbhojmjpaaGreatDoor
namespace Go.Proofs.YtlhagkbhojmjpaaGreatDoor
set_option linter.unusedSimpArgs false
set_option linter.unusedVariables false
set_option linter.unusedSectionVars false
theorem zh2 (l : List Int) (i j : Nat) : TV.list (((l.map TV.int).drop i).take j) = ints ((l.drop i).take j) := by unfold ints; rw [List.map_take, List.map_drop]
theorem zb3 (l : List Int) (i : Nat) : TV.list (((l.map TV.int).drop i).take (l.length - i)) = ints (l.drop i) := by rw [zh2, List.take_of_length_le (by rw [List.length_drop]; omega)]
theorem Byte.drop {l : List Int} (h : Byte l) (i : Nat) : Byte (l.drop i) := fun b hb => h b (List.mem_of_mem_drop hb)
theorem Byte.take {l : List Int} (h : Byte l) (i : Nat) : Byte (l.take i) := fun b hb => h b (List.mem_of_mem_take hb)
theorem zcd {l : List Int} {k : Nat} (h : k < l.length) : l.drop k = l.getD k 0 :: l.drop (k + 1) := by
  rw [List.drop_eq_getElem_cons h, List.getD_eq_getElem?_getD, List.getElem?_eq_getElem h]
  rfl
theorem zuj (l : List Int) {k j : Nat} (h : j < k) : (l.take k).getD j 0 = l.getD j 0 := by
  rw [List.getD_eq_getElem?_getD, List.getElem?_take, if_pos h, List.getD_eq_getElem?_getD]
theorem zom {s : List UInt8} (h : zbl s) : ∃ l, Chars l ∧ bs s = encZ l ∧ fin (bs s) = l := by
  obtain ⟨l, h1, h2⟩ := h
  refine ⟨l, h1, h2, ?_⟩
  rw [h2, zft, zln h1]
theorem zco (s : List UInt8) : (fin (bs s)).length ≤ s.length := by have := zls (bs s); rw [zak] at this; exact this
end Go.Proofs.YtlhagkbhojmjpaaGreatDoor

