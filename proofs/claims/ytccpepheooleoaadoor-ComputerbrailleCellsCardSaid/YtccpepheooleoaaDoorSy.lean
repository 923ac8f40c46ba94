/- Symbolic runs, part y: plain laws of the operations, for the plain part of a proof. -/
import Derived.Test.YtccpepheooleoaaDoorSx
namespace Go.Proofs.YtccpepheooleoaaDoor
set_option linter.unusedSimpArgs false
set_option linter.unusedVariables false
set_option linter.unusedSectionVars false

/-! ### Wrapping -/
theorem wrap_i64 {n : Int} (h : -9223372036854775808 ≤ n) (k : n ≤ 9223372036854775807) : IntKind.wrap .i64 n = n := by
  simp only [IntKind.wrap, IntKind.bits, IntKind.signed]
  simp only [Bool.true_and, ge_iff_le, decide_eq_true_eq]
  split <;> omega
theorem wrap_i32 {n : Int} (h : -2147483648 ≤ n) (k : n ≤ 2147483647) : IntKind.wrap .i32 n = n := by
  simp only [IntKind.wrap, IntKind.bits, IntKind.signed]
  simp only [Bool.true_and, ge_iff_le, decide_eq_true_eq]
  split <;> omega
theorem wrap_u8 (n : Int) : IntKind.wrap .u8 n = n % 256 := by
  simp [IntKind.wrap, IntKind.bits, IntKind.signed]
theorem wrap_u16 (n : Int) : IntKind.wrap .u16 n = n % 65536 := by
  simp [IntKind.wrap, IntKind.bits, IntKind.signed]
theorem wrap_u32 (n : Int) : IntKind.wrap .u32 n = n % 4294967296 := by
  simp [IntKind.wrap, IntKind.bits, IntKind.signed]

/-! ### Lists of integers, bytes -/
def ints (l : List Int) : TV := .list (l.map .int)
def bs (s : List UInt8) : List Int := s.map fun b => (b.toNat : Int)
theorem ints_nil : TV.list [] = ints [] := rfl
theorem ints_asList (l : List Int) : (ints l).asList = l.map .int := rfl
theorem ints_len (l : List Int) : (ints l).asList.length = l.length := by simp [ints, TV.asList]
theorem ints_app (l m : List Int) : TV.list (l.map TV.int ++ m.map TV.int) = ints (l ++ m) := by simp [ints]
theorem ints_snoc (l : List Int) (n : Int) : TV.list (l.map TV.int ++ [.int n]) = ints (l ++ [n]) := by simp [ints]
theorem map_snoc (l : List Int) (n : Int) : l.map TV.int ++ [.int n] = (l ++ [n]).map TV.int := by simp
theorem map_app (l m : List Int) : l.map TV.int ++ m.map TV.int = (l ++ m).map TV.int := by simp
theorem list_map (l : List Int) : TV.list (l.map TV.int) = ints l := rfl
theorem ints_get (l : List Int) (i : Nat) : (l.map TV.int).getD i (.int 0) = .int (l.getD i 0) := by
  rw [List.getD_eq_getElem?_getD, List.getElem?_map, List.getD_eq_getElem?_getD]
  cases l[i]? <;> rfl
theorem map_int_inj {l m : List Int} (h : l.map TV.int = m.map TV.int) : l = m := by
  have := congrArg (List.map TV.asInt) h
  simpa [List.map_map, Function.comp_def, TV.asInt] using this
theorem ints_inj {l m : List Int} (h : ints l = ints m) : l = m := map_int_inj (by simpa [ints] using h)
theorem bs_length (s : List UInt8) : (bs s).length = s.length := by simp [bs]
theorem bs_append (s t : List UInt8) : bs (s ++ t) = bs s ++ bs t := by simp [bs]
theorem bs_get (s : List UInt8) (i : Nat) : ((s.getD i 0).toNat : Int) = (bs s).getD i 0 := by
  rw [List.getD_eq_getElem?_getD, List.getD_eq_getElem?_getD, bs, List.getElem?_map]
  cases s[i]? <;> rfl
theorem bs_mem {s : List UInt8} {b : Int} (h : b ∈ bs s) : 0 ≤ b ∧ b ≤ 255 := by
  obtain ⟨x, _, rfl⟩ := List.mem_map.1 h
  have := x.toNat_lt
  omega
theorem bs_getD (s : List UInt8) (i : Nat) : 0 ≤ (bs s).getD i 0 ∧ (bs s).getD i 0 ≤ 255 := by
  rw [← bs_get]
  have := (s.getD i 0).toNat_lt
  omega
theorem bs_inj {s t : List UInt8} (h : bs s = bs t) : s = t := by
  induction s generalizing t with
  | nil => cases t with
    | nil => rfl
    | cons b t => simp [bs] at h
  | cons a s ih => cases t with
    | nil => simp [bs] at h
    | cons b t =>
      simp only [bs, List.map_cons, List.cons.injEq] at h
      obtain ⟨h1, h2⟩ := h
      rw [ih h2, UInt8.toNat_inj.1 (show a.toNat = b.toNat by omega)]
theorem byteOf_bs (s : List UInt8) : (((bs s).map TV.int).map byteOf) = s := by
  simp only [bs, List.map_map]
  conv => rhs; rw [← List.map_id s]
  refine List.map_congr_left fun b _ => ?_
  simp [byteOf, TV.asInt]
theorem bs_take (s : List UInt8) (k : Nat) : bs (s.take k) = (bs s).take k := by simp [bs, List.map_take]
theorem bs_drop (s : List UInt8) (k : Nat) : bs (s.drop k) = (bs s).drop k := by simp [bs, List.map_drop]
theorem take_snoc {l : List Int} {k : Nat} (h : k < l.length) : l.take (k + 1) = l.take k ++ [l.getD k 0] := by
  rw [List.take_succ_eq_append_getElem h, List.getD_eq_getElem?_getD, List.getElem?_eq_getElem h]
  rfl

/-! ### Arguments, typed -/
theorem OkA.str {t : TV} (h : OkA false [.str] t) : ∃ s, t = .str s ∧ s.length ≤ reachBytes := by
  obtain ⟨ct, e, h⟩ := h
  simp only [List.cons.injEq, and_true] at e
  subst e
  cases h with
  | str l h => exact ⟨l, rfl, h⟩
theorem OkA.bool {t : TV} (h : OkA false [.bool] t) : ∃ b, t = .bool b := by
  obtain ⟨ct, e, h⟩ := h
  simp only [List.cons.injEq, and_true] at e
  subst e
  cases h with
  | bool b => exact ⟨b, rfl⟩
theorem OkA.int {k : IntKind} {t : TV} (h : OkA false [.int k] t) : ∃ z, t = .int z ∧ k.min ≤ z ∧ z ≤ k.max := by
  obtain ⟨ct, e, h⟩ := h
  simp only [List.cons.injEq, and_true] at e
  subst e
  cases h with
  | int _ z h h' => exact ⟨z, rfl, h, h'⟩
theorem OkA.ints {k : IntKind} {t : TV} (h : OkA false [.slice false [.int k]] t) : ∃ l, t = ints l ∧ l.length ≤ reachBytes ∧ ∀ x ∈ l, k.min ≤ x ∧ x ≤ k.max := by
  obtain ⟨ct, e, h⟩ := h
  simp only [List.cons.injEq, and_true] at e
  subst e
  cases h with
  | row _ l h h' =>
    have e : l = (l.map TV.asInt).map TV.int := by
      rw [List.map_map]
      conv => lhs; rw [← List.map_id l]
      refine List.map_congr_left fun x hx => ?_
      cases h' x hx with
      | int _ z _ _ => rfl
    refine ⟨l.map TV.asInt, by unfold Proofs.YtccpepheooleoaaDoor.ints; rw [← e], by simpa using h, fun x hx => ?_⟩
    obtain ⟨y, hy, rfl⟩ := List.mem_map.1 hx
    cases h' y hy with
    | int _ z h1 h2 => exact ⟨h1, h2⟩

/-! ### Bits -/
theorem and_mask8 (m : Nat) (hm : m = 1 ∨ m = 3 ∨ m = 7 ∨ m = 15 ∨ m = 31 ∨ m = 63 ∨ m = 127) {b : Int} (h : 0 ≤ b) (k : b ≤ 255) : bitsOp .u8 (fun x y => x &&& y) b m = b % (m + 1) := by
  obtain ⟨n, rfl⟩ := Int.eq_ofNat_of_zero_le h
  have hn : n < 256 := by omega
  have key : ∀ n : Fin 256, ∀ j : Fin 8, bitsOp .u8 (fun x y => x &&& y) (n.val : Int) ((2 ^ j.val - 1 : Nat) : Int) = (n.val : Int) % ((2 ^ j.val - 1 : Nat) + 1) := by decide +kernel
  rcases hm with rfl | rfl | rfl | rfl | rfl | rfl | rfl
  · exact key ⟨n, hn⟩ 1
  · exact key ⟨n, hn⟩ 2
  · exact key ⟨n, hn⟩ 3
  · exact key ⟨n, hn⟩ 4
  · exact key ⟨n, hn⟩ 5
  · exact key ⟨n, hn⟩ 6
  · exact key ⟨n, hn⟩ 7
theorem and_mask32 (j : Nat) (hj : j ≤ 31) {a : Int} (ha : 0 ≤ a) (hs : a ≤ 2147483647) : bitsOp .i32 (fun u v => u &&& v) a ((2 ^ j - 1 : Nat) : Int) = a % (2 ^ j : Nat) := by
  obtain ⟨a, rfl⟩ := Int.eq_ofNat_of_zero_le ha
  have hp : 2 ^ j ≤ 2 ^ 31 := Nat.pow_le_pow_right (by omega) hj
  have hp2 : (2 : Nat) ^ 31 = 2147483648 := by decide
  unfold bitsOp
  have h1 : (BitVec.ofInt IntKind.i32.bits (a : Int) &&& BitVec.ofInt IntKind.i32.bits ((2 ^ j - 1 : Nat) : Int)).toNat = a % 2 ^ j := by
    rw [BitVec.toNat_and, BitVec.toNat_ofInt, BitVec.toNat_ofInt]
    simp only [IntKind.bits]
    rw [show ((a : Int) % (2 ^ 32 : Nat)).toNat = a by omega, show (((2 ^ j - 1 : Nat) : Int) % (2 ^ 32 : Nat)).toNat = 2 ^ j - 1 by omega]
    exact Nat.and_two_pow_sub_one_eq_mod a j
  have hlt := Nat.mod_lt a (Nat.two_pow_pos j)
  rw [h1, wrap_i32 (by omega) (by omega)]
  omega
/-- An or of what does not overlap is a sum. -/
theorem or_i32 (j : Nat) {a x : Int} (ha : 0 ≤ a) (hj : a % (2 ^ j : Nat) = 0) (hx : 0 ≤ x) (hx' : x < (2 ^ j : Nat)) (hs : a + x ≤ 2147483647) : bitsOp .i32 (fun u v => u ||| v) a x = a + x := by
  obtain ⟨a, rfl⟩ := Int.eq_ofNat_of_zero_le ha
  obtain ⟨x, rfl⟩ := Int.eq_ofNat_of_zero_le hx
  have hd : a % 2 ^ j = 0 := by omega
  have e : a = 2 ^ j * (a / 2 ^ j) := by have := Nat.div_add_mod a (2 ^ j); omega
  have hor : a ||| x = a + x := by
    rw [e]
    exact (Nat.two_pow_add_eq_or_of_lt (by omega) _).symm
  unfold bitsOp
  have h1 : (BitVec.ofInt IntKind.i32.bits (a : Int) ||| BitVec.ofInt IntKind.i32.bits (x : Int)).toNat = a + x := by
    rw [BitVec.toNat_or, BitVec.toNat_ofInt, BitVec.toNat_ofInt]
    simp only [IntKind.bits]
    rw [show ((a : Int) % (2 ^ 32 : Nat)).toNat = a by omega, show ((x : Int) % (2 ^ 32 : Nat)).toNat = x by omega, hor]
  rw [h1, wrap_i32 (by omega) (by omega)]
  omega
end Go.Proofs.YtccpepheooleoaaDoor
