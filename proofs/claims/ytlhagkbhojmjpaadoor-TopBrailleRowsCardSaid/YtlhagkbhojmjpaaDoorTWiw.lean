/- Written by this repo's own program out of its texts. -/
import Derived.Test.YtlhagkbhojmjpaaDoorTAdx
namespace Go.Proofs.YtlhagkbhojmjpaaDoor
set_option linter.unusedSimpArgs false
set_option linter.unusedVariables false
set_option linter.unusedSectionVars false
def Wom (n : Nat) (xs : List TV) : Nat := n - (xs.getD 0 (.int 0)).asInt.toNat
theorem wom_i (n i : Nat) (a b d e : TV) : Wom n [.int (i : Int), a, b, d, e] = n - i := congrArg (n - ·) (Int.toNat_natCast i)
theorem more_iff {sz n j : Nat} (hs : 1 ≤ sz) (hj : j ≤ cntW sz n) (h0 : 0 < j) : j < cntW sz n ↔ j * sz < n := by
  unfold cntW at *
  constructor
  · intro h
    have h1 := (Nat.le_div_iff_mul_le (show 0 < sz by omega)).1 (show j ≤ (n - 1) / sz by omega)
    have h2 : 1 * 1 ≤ j * sz := Nat.mul_le_mul h0 hs
    omega
  · intro h
    have := (Nat.le_div_iff_mul_le (show 0 < sz by omega)).2 (show j * sz ≤ n - 1 by omega)
    omega
theorem show_any {sz dr dl w h : Int} {rows : List (List Gl)} {r c : Int} (hq : qhx sz dr dl w h rows r c = true) (hd : min dr (h - 1) = dr) (vis k : Bool) : ∃ a, showT sz dr dl w h rows r c vis k = .agg [ints (showC (brC (rw' rows dr) k) sz.toNat dl.toNat), .int a] := by
  unfold showT
  rw [if_pos hq, hd]
  exact ⟨_, rfl⟩
theorem lens_get {rows : List (List Gl)} {i : Nat} (k : Bool) (h : i < rows.length) : (lensW rows k)[i]? = some (brC (rr rows i) k).length := by
  rw [lensW, List.getElem?_map, rr, List.getD_eq_getElem?_getD, List.getElem?_eq_getElem h]
  rfl
end Go.Proofs.YtlhagkbhojmjpaaDoor

