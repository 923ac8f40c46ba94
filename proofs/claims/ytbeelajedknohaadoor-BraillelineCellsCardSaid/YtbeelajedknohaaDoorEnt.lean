/- The contracts of Encode: the program's and the reference's. -/
import Derived.Test.YtbeelajedknohaaDoorUs
import Derived.Test.YtbeelajedknohaaDoorEnc
namespace Go.Proofs.YtbeelajedknohaaDoor
set_option linter.unusedSimpArgs false
set_option linter.unusedVariables false
set_option linter.unusedSectionVars false
open Go.Lib (encodeRuneZ)

theorem or8_192 : ∀ x : Fin 32, bitsOp .u8 (fun a b => a ||| b) 192 ((x.val : Nat) : Int) = 192 + (x.val : Nat) := by decide +kernel
theorem or8_128 : ∀ x : Fin 64, bitsOp .u8 (fun a b => a ||| b) 128 ((x.val : Nat) : Int) = 128 + (x.val : Nat) := by decide +kernel
theorem or8_224 : ∀ x : Fin 16, bitsOp .u8 (fun a b => a ||| b) 224 ((x.val : Nat) : Int) = 224 + (x.val : Nat) := by decide +kernel
theorem or8_240 : ∀ x : Fin 8, bitsOp .u8 (fun a b => a ||| b) 240 ((x.val : Nat) : Int) = 240 + (x.val : Nat) := by decide +kernel
theorem or192 {x : Int} (h : 0 ≤ x) (k : x < 32) : bitsOp .u8 (fun a b => a ||| b) 192 x = 192 + x := by
  obtain ⟨n, rfl⟩ := Int.eq_ofNat_of_zero_le h
  exact or8_192 ⟨n, by omega⟩
theorem or128 {x : Int} (h : 0 ≤ x) (k : x < 64) : bitsOp .u8 (fun a b => a ||| b) 128 x = 128 + x := by
  obtain ⟨n, rfl⟩ := Int.eq_ofNat_of_zero_le h
  exact or8_128 ⟨n, by omega⟩
theorem or224 {x : Int} (h : 0 ≤ x) (k : x < 16) : bitsOp .u8 (fun a b => a ||| b) 224 x = 224 + x := by
  obtain ⟨n, rfl⟩ := Int.eq_ofNat_of_zero_le h
  exact or8_224 ⟨n, by omega⟩
theorem or240 {x : Int} (h : 0 ≤ x) (k : x < 8) : bitsOp .u8 (fun a b => a ||| b) 240 x = 240 + x := by
  obtain ⟨n, rfl⟩ := Int.eq_ofNat_of_zero_le h
  exact or8_240 ⟨n, by omega⟩
theorem and63 (x : Int) : bitsOp .u8 (fun a b => a &&& b) (IntKind.wrap .u8 x) 63 = x % 64 := by
  rw [wrap_u8, show (63 : Int) = ((63 : Nat) : Int) from rfl, and_mask8 63 (by simp) (by omega) (by omega)]
  omega
theorem shr_eq (k : IntKind) (x : Int) (j : Nat) (hj : j ≤ k.bits) (h : 0 ≤ x) : shrOp k x j = x / (2 ^ j : Nat) := by
  unfold shrOp
  rw [show Nat.min (((j : Nat) : Int).toNat) k.bits = j by rw [Int.toNat_natCast]; exact Nat.min_eq_left hj, Int.fdiv_eq_ediv_of_nonneg _ (by exact_mod_cast Nat.zero_le _)]
  norm_cast
theorem shr6 {x : Int} (h : 0 ≤ x) : shrOp .i32 x 6 = x / 64 := shr_eq .i32 x 6 (by decide) h
theorem shr12 {x : Int} (h : 0 ≤ x) : shrOp .i32 x 12 = x / 4096 := shr_eq .i32 x 12 (by decide) h
theorem shr18 {x : Int} (h : 0 ≤ x) : shrOp .i32 x 18 = x / 262144 := shr_eq .i32 x 18 (by decide) h
theorem wrapu32 {n : Int} (h : -2147483648 ≤ n) (k : n ≤ 2147483647) : (0 ≤ n ∧ IntKind.wrap .u32 n = n) ∨ (n < 0 ∧ 2147483648 ≤ IntKind.wrap .u32 n) := by rw [wrap_u32]; omega

/-- Numbers of kind int32. -/
def Run (l : List Int) : Prop := ∀ n ∈ l, -2147483648 ≤ n ∧ n ≤ 2147483647
theorem Chars.run {l : List Int} (h : Chars l) : Run l := fun n hn => by have := h n hn; unfold isCh at this; omega
theorem getD_mem {l : List Int} {k : Nat} (h : k < l.length) : l.getD k 0 ∈ l := by
  rw [List.getD_eq_getElem?_getD, List.getElem?_eq_getElem h]; exact List.getElem_mem h
theorem map_byteOf (l : List Int) : (l.map TV.int).map byteOf = unbs l := by
  unfold unbs
  rw [List.map_map]
  rfl
theorem enc_big {n : Int} (h : 1114111 < n) : encodeRuneZ n = [239, 191, 189] := by
  unfold encodeRuneZ
  rw [if_neg (by omega), if_neg (by omega), if_neg (by omega), if_neg (by omega)]
theorem enc_neg {n : Int} (h : n < 0) : encodeRuneZ n = [239, 191, 189] := by
  unfold encodeRuneZ
  rw [if_neg (by omega), if_neg (by omega), if_neg (by omega), if_neg (by omega)]
theorem enc_sur {n : Int} (h : 55296 ≤ n) (k : n ≤ 57343) : encodeRuneZ n = [239, 191, 189] := by
  unfold encodeRuneZ
  rw [if_neg (by omega), if_neg (by omega), if_neg (by omega), if_neg (by omega)]

def encL : Law := ⟨fun ts => ∃ (l : List Int), ts = [ints l] ∧ (Run l ∧ l.length ≤ 100000000000), fun ts z₀ => ∀ (l : List Int), ts = [ints l] → z₀ = .str (unbs (encZ l))⟩
theorem enc_pre {l : List Int} (h : Run l ∧ l.length ≤ 100000000000) : encL.pre [ints l] := ⟨l, rfl, h⟩
theorem enc_fin {l : List Int} {z₀ : TV} (h : z₀ = .str (unbs (encZ l))) : encL.post [ints l] z₀ := fun l₁ e => by
  simp only [List.cons.injEq, TV.str.injEq, TV.int.injEq, TV.bool.injEq, TV.agg.injEq, TV.list.injEq, ints_eq, and_true, true_and, and_assoc] at e; subst e
  exact h
theorem enc_all {l : List Int} {Q : TV → Prop} : (∀ z₀, encL.post [ints l] z₀ → Q z₀) ↔ Q (.str (unbs (encZ l))) := ⟨fun h => h _ (enc_fin rfl), fun h z₀ hr => by rw [hr _ rfl]; exact h⟩
def EI (l : List Int) (xs : List TV) : Prop := ∃ k : Nat, xs = [.int k, ints (encZ (l.take k))] ∧ k ≤ l.length
def Em (l : List Int) (xs : List TV) : Nat := l.length - (xs.getD 0 (.int 0)).asInt.toNat
theorem enc_c (k : Nat) : Contract Tryd.prog (mkEnv globT []) gtab (sn_utf8stream_Encode k) encL.pre encL.post := Contract.env (Γ := mkEnv globT []) (contract_utf8stream_Encode (fun _ => rfl) (fun s hs => by
    cases hs) k (by
  rintro ts hl ⟨l, rfl, hp⟩
  have hfin : ∀ z₀ : TV, z₀ = .str (unbs (encZ l)) → encL.post [ints l] z₀ := fun z₀ h => enc_fin h
  generalize encL.post [ints l] = R at hfin ⊢
  unfold tr_utf8stream_Encode
  obtain ⟨hr, hsz⟩ := hp
  simp only [Tree.den, E.den, P1.den, P2.den, P3.den, List.map_cons, List.map_nil, List.cons_append, List.nil_append, List.getD_cons_zero, List.getD_cons_succ, List.getElem?_cons_zero, List.getElem?_cons_succ, asInt_int, asBool_bool, asStr_str, asList_list, cells_agg, TV.cell, pre_zero, pre_succ, post_zero, post_succ, decide_eq_true_eq, decide_eq_false_iff_not, beq_iff_eq, beq_eq_false_iff_ne, Bool.not_eq_true', Bool.not_eq_false', ne_eq, List.length_cons, List.length_nil, forall_eq, Bool.false_eq_true, Bool.true_eq_false, Int.reduceToNat, Option.some.injEq, exists_eq_left']
  simp only [Tree.den, E.den, P1.den, P2.den, P3.den, List.map_cons, List.map_nil, List.cons_append, List.nil_append, List.getD_cons_zero, List.getD_cons_succ, List.getElem?_cons_zero, List.getElem?_cons_succ, asInt_int, asBool_bool, asStr_str, asList_list, cells_agg, TV.cell, pre_zero, pre_succ, post_zero, post_succ, decide_eq_true_eq, decide_eq_false_iff_not, beq_iff_eq, beq_eq_false_iff_ne, Bool.not_eq_true', Bool.not_eq_false', ne_eq, List.length_cons, List.length_nil, forall_eq, Bool.false_eq_true, Bool.true_eq_false, Int.reduceToNat, Option.some.injEq, exists_eq_left', ints_asList, map_snoc, map_app, list_map, ints_nil, ints_get, ints_len, bs_get, Int.toNat_natCast, List.length_append, List.length_map, bs_length]
  refine ⟨EI l, Em l, ⟨0, rfl, by omega⟩, ?_⟩
  rintro xs _ ⟨k, rfl, hk⟩
  have hD : ∀ o, Em l [.int (k : Int), o] = l.length - k := fun o => rfl
  have hel := encZ_len (l.take k)
  have htl := List.length_take_le k l
  simp only [Tree.den, E.den, P1.den, P2.den, P3.den, List.map_cons, List.map_nil, List.cons_append, List.nil_append, List.getD_cons_zero, List.getD_cons_succ, List.getElem?_cons_zero, List.getElem?_cons_succ, asInt_int, asBool_bool, asStr_str, asList_list, cells_agg, TV.cell, pre_zero, pre_succ, post_zero, post_succ, decide_eq_true_eq, decide_eq_false_iff_not, beq_iff_eq, beq_eq_false_iff_ne, Bool.not_eq_true', Bool.not_eq_false', ne_eq, List.length_cons, List.length_nil, forall_eq, Bool.false_eq_true, Bool.true_eq_false, Int.reduceToNat, Option.some.injEq, exists_eq_left', ints_asList, map_snoc, map_app, list_map, ints_nil, ints_get, ints_len, bs_get, Int.toNat_natCast, List.length_append, List.length_map, bs_length, hD]
  have e64 : IntKind.wrap .i64 ((k : Int) + 1) = ((k + 1 : Nat) : Int) := by rw [wrap_i64 (n := (k : Int) + 1) (by omega) (by omega)]; omega
  rw [e64]
  refine ⟨fun hlt => ⟨by omega, by omega, ?_⟩, fun hlt => ?_⟩
  · have hkl : k < l.length := by omega
    have hn := hr _ (getD_mem hkl)
    have hs := take_snoc hkl
    generalize hnn : l.getD k 0 = n at *
    have go : ∀ w, w = encodeRuneZ n → EI l [.int ((k + 1 : Nat) : Int), ints (encZ (l.take k) ++ w)] ∧ Em l [.int ((k + 1 : Nat) : Int), ints (encZ (l.take k) ++ w)] < l.length - k := fun w hw => by
      refine ⟨⟨k + 1, ?_, by omega⟩, ?_⟩
      · rw [hs, encZ_append, encZ_one, hw]
      · simp only [Em, List.getD_cons_zero, asInt_int]; omega
    have l1 : ∀ a : Int, [TV.int a] = [a].map TV.int := fun _ => rfl
    have lc : ∀ (a : Int) (m : List Int), TV.int a :: m.map TV.int = (a :: m).map TV.int := fun _ _ => rfl
    simp only [l1, lc, map_app, list_map]
    rcases wrapu32 hn.1 hn.2 with ⟨h0, ew⟩ | ⟨h0, ew⟩
    · rw [ew]
      refine ⟨fun h1 => ⟨by omega, go _ ?_⟩, fun h1 => ⟨fun h2 => ⟨by omega, go _ ?_⟩, fun h2 => ⟨fun h3 => ⟨by omega, go _ ?_⟩, fun h3 => ⟨fun h4 => ⟨fun h5 => ⟨by omega, go _ ?_⟩, fun h5 => ⟨fun h6 => ⟨fun h7 => ⟨by omega, go _ ?_⟩, fun h7 => ⟨by omega, go _ ?_⟩⟩, fun h6 => ⟨by omega, go _ ?_⟩⟩⟩, fun h4 => ⟨fun h5 => ⟨fun h6 => ⟨by omega, go _ ?_⟩, fun h6 => ⟨by omega, go _ ?_⟩⟩, fun h5 => ⟨by omega, go _ ?_⟩⟩⟩⟩⟩⟩
      · rw [Lib.encodeRuneZ_one h0 (by omega), wrap_u8]
        congr 1
        omega
      · rw [Lib.encodeRuneZ_two (by omega) (by omega), and63, shr6 h0, wrap_u8, or128 (by omega) (by omega), or192 (by omega) (by omega)]
        congr 1
        omega
      · rw [Lib.encodeRuneZ_three (by omega), and63, and63, shr6 h0, shr12 h0, wrap_u8, or128 (by omega) (by omega), or128 (by omega) (by omega), or224 (by omega) (by omega)]
        congr 1
        omega
      · rw [Lib.encodeRuneZ_three (by omega), and63, and63, shr6 h0, shr12 h0, wrap_u8, or128 (by omega) (by omega), or128 (by omega) (by omega), or224 (by omega) (by omega)]
        congr 1
        omega
      · rw [show encodeRuneZ n = [240 + n / 262144, 128 + n / 4096 % 64, 128 + n / 64 % 64, 128 + n % 64] by unfold encodeRuneZ; rw [if_neg (by omega), if_neg (by omega), if_neg (by omega), if_pos (by omega)]]
        rw [and63, and63, and63, shr6 h0, shr12 h0, shr18 h0, wrap_u8, or128 (by omega) (by omega), or128 (by omega) (by omega), or128 (by omega) (by omega), or240 (by omega) (by omega)]
        congr 1
        omega
      · rw [enc_big (by omega)]
      · omega
      · omega
      · omega
      · rw [enc_sur (by omega) (by omega)]
    · refine ⟨fun h1 => by omega, fun h1 => ⟨fun h2 => by omega, fun h2 => ⟨fun h3 => by omega, fun h3 => ⟨fun h4 => ⟨fun h5 => by omega, fun h5 => ⟨fun h6 => ⟨fun h7 => by omega, fun h7 => ⟨by omega, go _ ?_⟩⟩, fun h6 => by omega⟩⟩, fun h4 => by omega⟩⟩⟩⟩
      rw [enc_neg h0]
  · have : k = l.length := by omega
    subst this
    refine hfin _ ?_
    rw [List.take_of_length_le (Nat.le_refl _), map_byteOf])) rfl
