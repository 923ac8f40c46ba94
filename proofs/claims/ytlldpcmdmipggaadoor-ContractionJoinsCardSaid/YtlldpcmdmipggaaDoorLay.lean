/- unicode/utf8.ValidString, laid over this program. -/
import Derived.Shelf.Unicode.ValidAny
import Derived.Test.YtlldpcmdmipggaaDoorG
namespace Go.Proofs.YtlldpcmdmipggaaDoor
set_option linter.unusedSimpArgs false
set_option linter.unusedVariables false
set_option linter.unusedSectionVars false
open Go.Shelf Go.RowKit

def ren_validString : Ren := ⟨fun n => if n = 196 then 44 else if n = 259 then 61 else 0, fun n => if n = 0 then 0 else if n = 3 then 3 else if n = 4 then 4 else if n = 5 then 5 else if n = 9 then 9 else if n = 12 then 12 else if n = 46 then 73 else if n = 53 then 98 else if n = 119 then 90 else if n = 138 then 92 else if n = 139 then 93 else 0, fun n => if n = 3 then 1 else if n = 4 then 2 else 0⟩
set_option maxRecDepth 100000 in
theorem lays_validString : Lays.n196 Tryd.prog ren_validString where
  mixed := by kernel_rfl
  f196 := by kernel_rfl
  f259 := by kernel_rfl
  t0 := by kernel_rfl
  a0 := fun w => by kernel_rfl
  z0 := fun w => by kernel_rfl
  v0 := fun w => by kernel_rfl
  t3 := by kernel_rfl
  a3 := fun w => by kernel_rfl
  z3 := fun w => by kernel_rfl
  v3 := fun w => by kernel_rfl
  t4 := by kernel_rfl
  a4 := fun w => by kernel_rfl
  z4 := fun w => by kernel_rfl
  v4 := fun w => by kernel_rfl
  t5 := by kernel_rfl
  a5 := fun w => by kernel_rfl
  z5 := fun w => by kernel_rfl
  v5 := fun w => by kernel_rfl
  t9 := by kernel_rfl
  a9 := fun w => by kernel_rfl
  z9 := fun w => by kernel_rfl
  v9 := fun w => by kernel_rfl
  t12 := by kernel_rfl
  a12 := fun w => by kernel_rfl
  z12 := fun w => by kernel_rfl
  v12 := fun w => by kernel_rfl
  t46 := by kernel_rfl
  a46 := fun w => by kernel_rfl
  z46 := fun w => by kernel_rfl
  v46 := fun w => by kernel_rfl
  t53 := by kernel_rfl
  a53 := fun w => by kernel_rfl
  z53 := fun w => by kernel_rfl
  v53 := fun w => by kernel_rfl
  t119 := by kernel_rfl
  a119 := fun w => by kernel_rfl
  z119 := fun w => by kernel_rfl
  t138 := by kernel_rfl
  a138 := fun w => by kernel_rfl
  z138 := fun w => by kernel_rfl
  v138 := fun w => by kernel_rfl
  t139 := by kernel_rfl
  a139 := fun w => by kernel_rfl
  z139 := fun w => by kernel_rfl
  v139 := fun w => by kernel_rfl
  g3 := by kernel_rfl
  g4 := by kernel_rfl
end Go.Proofs.YtlldpcmdmipggaaDoor
