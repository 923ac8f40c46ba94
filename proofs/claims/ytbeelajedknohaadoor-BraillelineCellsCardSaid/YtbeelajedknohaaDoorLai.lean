/- strings.IndexByte, laid over this program. -/
import Derived.Shelf.Small.Strs
import Derived.Test.YtbeelajedknohaaDoorG
namespace Go.Proofs.YtbeelajedknohaaDoor
set_option linter.unusedSimpArgs false
set_option linter.unusedVariables false
set_option linter.unusedSectionVars false
open Go.Shelf Go.RowKit

def ren_indexByte : Ren := ⟨fun n => if n = 137 then 94 else if n = 217 then 105 else if n = 266 then 110 else 0, fun n => if n = 3 then 3 else if n = 5 then 5 else if n = 9 then 9 else 0, fun n => 0⟩
set_option maxRecDepth 100000 in
theorem lays_indexByte : Lays.n137 Tryd.prog ren_indexByte where
  mixed := by kernel_rfl
  f137 := by kernel_rfl
  f217 := by kernel_rfl
  f266 := by kernel_rfl
  t3 := by kernel_rfl
  a3 := fun w => by kernel_rfl
  z3 := fun w => by kernel_rfl
  v3 := fun w => by kernel_rfl
  t5 := by kernel_rfl
  a5 := fun w => by kernel_rfl
  z5 := fun w => by kernel_rfl
  v5 := fun w => by kernel_rfl
  t9 := by kernel_rfl
  a9 := fun w => by kernel_rfl
  z9 := fun w => by kernel_rfl
  v9 := fun w => by kernel_rfl
end Go.Proofs.YtbeelajedknohaaDoor
