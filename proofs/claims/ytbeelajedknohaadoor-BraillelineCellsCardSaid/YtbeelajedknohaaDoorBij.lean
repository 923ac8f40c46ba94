/- The plain law of the table of cells. -/
import Derived.Test.YtbeelajedknohaaDoorCp
namespace Go.Proofs.YtbeelajedknohaaDoor
set_option linter.unusedSimpArgs false
set_option linter.unusedVariables false
set_option linter.unusedSectionVars false

theorem cell_facts {a : Int} (h : 32 ≤ a) (k : a ≤ 126) : cellZ a ≠ 255 ∧ runeZ (cellZ a) = a := by
  have key : ∀ m : Fin 95, cellZ (32 + (m.val : Int)) ≠ 255 ∧ runeZ (cellZ (32 + (m.val : Int))) = 32 + (m.val : Int) := by decide +kernel
  obtain ⟨m, hm⟩ := Int.eq_ofNat_of_zero_le (show 0 ≤ a - 32 by omega)
  have hlt : m < 95 := by omega
  have h2 := key ⟨m, hlt⟩
  dsimp only at h2
  rw [show 32 + (m : Int) = a by omega] at h2
  exact h2
theorem rune_facts {c : Int} (h : 0 ≤ c) (k : c ≤ 255) : runeZ c = 65533 ∨ (32 ≤ runeZ c ∧ runeZ c ≤ 126 ∧ cellZ (runeZ c) = c) := by
  have key : ∀ m : Fin 256, runeZ (m.val : Int) = 65533 ∨ (32 ≤ runeZ (m.val : Int) ∧ runeZ (m.val : Int) ≤ 126 ∧ cellZ (runeZ (m.val : Int)) = (m.val : Int)) := by decide +kernel
  obtain ⟨m, rfl⟩ := Int.eq_ofNat_of_zero_le h
  have hlt : m < 256 := by omega
  have h2 := key ⟨m, hlt⟩
  dsimp only at h2
  exact h2
theorem hasZ_iff {a : Int} : hasZ a = true ↔ 32 ≤ a ∧ a ≤ 126 := by unfold hasZ; simp
end Go.Proofs.YtbeelajedknohaaDoor
