/- The contracts of Text: the program's and the reference's. -/
import Derived.Test.YtbeelajedknohaaDoorTxt
import Derived.Test.YtbeelajedknohaaDoorIdx
import Derived.Test.YtbeelajedknohaaDoorEnu
import Derived.Test.YtbeelajedknohaaDoorCu
namespace Go.Proofs.YtbeelajedknohaaDoor
set_option linter.unusedSimpArgs false
set_option linter.unusedVariables false
set_option linter.unusedSectionVars false

theorem ints_sub (l : List Int) (i j : Nat) : TV.list (((l.map TV.int).drop i).take j) = ints ((l.drop i).take j) := by unfold ints; rw [List.map_take, List.map_drop]
theorem ints_drop (l : List Int) (i : Nat) : TV.list (((l.map TV.int).drop i).take (l.length - i)) = ints (l.drop i) := by rw [ints_sub, List.take_of_length_le (by rw [List.length_drop]; omega)]
theorem Byte.drop {l : List Int} (h : Byte l) (i : Nat) : Byte (l.drop i) := fun b hb => h b (List.mem_of_mem_drop hb)
theorem Byte.take {l : List Int} (h : Byte l) (i : Nat) : Byte (l.take i) := fun b hb => h b (List.mem_of_mem_take hb)
theorem drop_get {l : List Int} {k : Nat} (h : k < l.length) : l.drop k = l.getD k 0 :: l.drop (k + 1) := by
  rw [List.drop_eq_getElem_cons h, List.getD_eq_getElem?_getD, List.getElem?_eq_getElem h]
  rfl
theorem rune_range {c : Int} (hc : 0 ≤ c ∧ c ≤ 255) : 32 ≤ runeZ c ∧ runeZ c ≤ 65533 := by
  rcases rune_facts hc.1 hc.2 with h | ⟨h1, h2, _⟩
  · omega
  · omega

def digL : Law := ⟨fun ts => ∃ (c : Int), ts = [.int c] ∧ (0 ≤ c ∧ c ≤ 255), fun ts z₀ => ∀ (c : Int), ts = [.int c] → z₀ = .int (digZ c)⟩
theorem dig_pre {c : Int} (h : 0 ≤ c ∧ c ≤ 255) : digL.pre [.int c] := ⟨c, rfl, h⟩
theorem dig_fin {c : Int} {z₀ : TV} (h : z₀ = .int (digZ c)) : digL.post [.int c] z₀ := fun c₁ e => by
  simp only [List.cons.injEq, TV.str.injEq, TV.int.injEq, TV.bool.injEq, TV.agg.injEq, TV.list.injEq, ints_eq, and_true, true_and, and_assoc] at e; subst e
  exact h
theorem dig_all {c : Int} {Q : TV → Prop} : (∀ z₀, digL.post [.int c] z₀ → Q z₀) ↔ Q (.int (digZ c)) := ⟨fun h => h _ (dig_fin rfl), fun h z₀ hr => by rw [hr _ rfl]; exact h⟩
theorem dig_c (k : Nat) : Contract Tryd.prog (mkEnv globT []) gtab (sn_ref51_digit k) digL.pre digL.post := Contract.env (Γ := mkEnv globT [runeL]) (contract_ref51_digit (fun _ => rfl) (fun s hs => by
    simp only [cx_ref51_digit, List.mem_cons, List.not_mem_nil, or_false] at hs
    rcases hs with rfl
    · exact Contract.inEnv rfl (refRune_c 0) rfl) k (by
  rintro ts hl ⟨c, rfl, hp⟩
  have hfin : ∀ z₀ : TV, z₀ = .int (digZ c) → digL.post [.int c] z₀ := fun z₀ h => dig_fin h
  generalize digL.post [.int c] = R at hfin ⊢
  unfold tr_ref51_digit
  have hr := rune_range hp
  simp only [Tree.den, E.den, P1.den, P2.den, P3.den, List.map_cons, List.map_nil, List.cons_append, List.nil_append, List.getD_cons_zero, List.getD_cons_succ, List.getElem?_cons_zero, List.getElem?_cons_succ, asInt_int, asBool_bool, asStr_str, asList_list, cells_agg, TV.cell, pre_zero, pre_succ, post_zero, post_succ, decide_eq_true_eq, decide_eq_false_iff_not, beq_iff_eq, beq_eq_false_iff_ne, Bool.not_eq_true', Bool.not_eq_false', ne_eq, List.length_cons, List.length_nil, forall_eq, Bool.false_eq_true, Bool.true_eq_false, Int.reduceToNat, Option.some.injEq, exists_eq_left', rune_all]
  refine ⟨rune_pre, ?_⟩
  unfold digZ at hfin
  repeat' (first
    | (refine hfin _ ?_
       try simp (disch := omega) only [wrap_i32]
       congr 1
       repeat' split
       all_goals omega)
    | (refine ⟨fun _ => ?_, fun _ => ?_⟩)))) rfl
theorem dig_idx {c : Int} (hc : 0 ≤ c ∧ c ≤ 255) (h : runeZ c < 128) : Lib.indexByte digitsB (IntKind.wrap .u8 (runeZ c)).toNat.toUInt8 = digZ c := by
  obtain ⟨n, rfl⟩ := Int.eq_ofNat_of_zero_le hc.1
  have key : ∀ n : Fin 256, runeZ ((n.val : Nat) : Int) < 128 → Lib.indexByte digitsB (IntKind.wrap .u8 (runeZ ((n.val : Nat) : Int))).toNat.toUInt8 = digZ ((n.val : Nat) : Int) := by decide +kernel
  exact key ⟨n, by omega⟩ h
theorem dig_high {c : Int} (h : 128 ≤ runeZ c) : digZ c < 0 := by
  unfold digZ
  rw [if_neg (by omega), if_neg (by omega)]
  omega
theorem shl4 {n d : Int} (h : 0 ≤ n) (k : n < 1048576) (hd : 0 ≤ d) (hd2 : d < 16) : bitsOp .i32 (fun x y => x ||| y) (shlOp .i32 n 4) (IntKind.wrap .i32 d) = 16 * n + d := by
  have e : shlOp .i32 n 4 = 16 * n := by
    unfold shlOp
    rw [show Nat.min ((4 : Int).toNat) (IntKind.i32).bits = 4 by decide, wrap_i32 (by omega) (by omega)]
    omega
  rw [e, wrap_i32 (n := d) (by omega) (by omega), or_i32 4 (by omega) (by omega) hd (by omega) (by omega)]
def numL : Law := ⟨fun ts => ∃ (l : List Int), ts = [ints l] ∧ (Byte l ∧ l.length = 6), fun ts z₀ => ∀ (l : List Int), ts = [ints l] → z₀ = .int ((charZ l).getD (-1))⟩
theorem num_pre {l : List Int} (h : Byte l ∧ l.length = 6) : numL.pre [ints l] := ⟨l, rfl, h⟩
theorem num_fin {l : List Int} {z₀ : TV} (h : z₀ = .int ((charZ l).getD (-1))) : numL.post [ints l] z₀ := fun l₁ e => by
  simp only [List.cons.injEq, TV.str.injEq, TV.int.injEq, TV.bool.injEq, TV.agg.injEq, TV.list.injEq, ints_eq, and_true, true_and, and_assoc] at e; subst e
  exact h
theorem num_all {l : List Int} {Q : TV → Prop} : (∀ z₀, numL.post [ints l] z₀ → Q z₀) ↔ Q (.int ((charZ l).getD (-1))) := ⟨fun h => h _ (num_fin rfl), fun h z₀ hr => by rw [hr _ rfl]; exact h⟩
def NI (l : List Int) (xs : List TV) : Prop := ∃ (k : Nat) (n : Int), xs = [.int n, .int k] ∧ k ≤ 6 ∧ numF l 0 = numF (l.drop k) n ∧ 0 ≤ n ∧ n < 16 ^ k
def Nm (xs : List TV) : Nat := 6 - (xs.getD 1 (.int 0)).asInt.toNat
theorem pow16 {k : Nat} (h : k < 6) : (16 : Int) ^ k ≤ 1048576 ∧ (16 : Int) ^ (k + 1) = 16 * 16 ^ k := by
  have key : ∀ k : Fin 6, (16 : Int) ^ k.val ≤ 1048576 ∧ (16 : Int) ^ (k.val + 1) = 16 * 16 ^ k.val := by decide +kernel
  exact key ⟨k, h⟩
theorem num_c (k : Nat) : Contract Tryd.prog (mkEnv globT []) gtab (sn_computerbraille_number k) numL.pre numL.post := Contract.env (Γ := mkEnv globT [sibL, runeL]) (contract_computerbraille_number (fun _ => rfl) (fun s hs => by
    simp only [cx_computerbraille_number, List.mem_cons, List.not_mem_nil, or_false] at hs
    rcases hs with rfl | rfl
    · exact Contract.inEnv rfl (sib_c 0) rfl
    · exact Contract.inEnv rfl (rune_c 1) rfl) k (by
  rintro ts hl ⟨l, rfl, hp⟩
  have hfin : ∀ z₀ : TV, z₀ = .int ((charZ l).getD (-1)) → numL.post [ints l] z₀ := fun z₀ h => num_fin h
  generalize numL.post [ints l] = R at hfin ⊢
  unfold tr_computerbraille_number
  obtain ⟨hb, h6⟩ := hp
  have hdg : [48, 49, 50, 51, 52, 53, 54, 55, 56, 57, 97, 98, 99, 100, 101, 102] = digitsB := rfl
  simp only [Tree.den, E.den, P1.den, P2.den, P3.den, List.map_cons, List.map_nil, List.cons_append, List.nil_append, List.getD_cons_zero, List.getD_cons_succ, List.getElem?_cons_zero, List.getElem?_cons_succ, asInt_int, asBool_bool, asStr_str, asList_list, cells_agg, TV.cell, pre_zero, pre_succ, post_zero, post_succ, decide_eq_true_eq, decide_eq_false_iff_not, beq_iff_eq, beq_eq_false_iff_ne, Bool.not_eq_true', Bool.not_eq_false', ne_eq, List.length_cons, List.length_nil, forall_eq, Bool.false_eq_true, Bool.true_eq_false, Int.reduceToNat, Option.some.injEq, exists_eq_left']
  simp only [Tree.den, E.den, P1.den, P2.den, P3.den, List.map_cons, List.map_nil, List.cons_append, List.nil_append, List.getD_cons_zero, List.getD_cons_succ, List.getElem?_cons_zero, List.getElem?_cons_succ, asInt_int, asBool_bool, asStr_str, asList_list, cells_agg, TV.cell, pre_zero, pre_succ, post_zero, post_succ, decide_eq_true_eq, decide_eq_false_iff_not, beq_iff_eq, beq_eq_false_iff_ne, Bool.not_eq_true', Bool.not_eq_false', ne_eq, List.length_cons, List.length_nil, forall_eq, Bool.false_eq_true, Bool.true_eq_false, Int.reduceToNat, Option.some.injEq, exists_eq_left', ints_asList, map_snoc, map_app, list_map, ints_nil, ints_get, ints_len, bs_get, Int.toNat_natCast, List.length_append, List.length_map, bs_length, hdg]
  refine ⟨NI l, Nm, ⟨0, 0, rfl, by omega, rfl, by omega, by omega⟩, ?_⟩
  rintro xs _ ⟨k, n, rfl, hk, he, h0, h1⟩
  have hD : Nm [.int n, .int (k : Int)] = 6 - k := rfl
  simp only [Tree.den, E.den, P1.den, P2.den, P3.den, List.map_cons, List.map_nil, List.cons_append, List.nil_append, List.getD_cons_zero, List.getD_cons_succ, List.getElem?_cons_zero, List.getElem?_cons_succ, asInt_int, asBool_bool, asStr_str, asList_list, cells_agg, TV.cell, pre_zero, pre_succ, post_zero, post_succ, decide_eq_true_eq, decide_eq_false_iff_not, beq_iff_eq, beq_eq_false_iff_ne, Bool.not_eq_true', Bool.not_eq_false', ne_eq, List.length_cons, List.length_nil, forall_eq, Bool.false_eq_true, Bool.true_eq_false, Int.reduceToNat, Option.some.injEq, exists_eq_left', ints_asList, map_snoc, map_app, list_map, ints_nil, ints_get, ints_len, bs_get, Int.toNat_natCast, List.length_append, List.length_map, bs_length, hdg, hD, rune_all, sib_all]
  have e64 : IntKind.wrap .i64 ((k : Int) + 1) = ((k + 1 : Nat) : Int) := by rw [wrap_i64 (n := (k : Int) + 1) (by omega) (by omega)]; omega
  rw [e64]
  refine ⟨fun hlt => ⟨by omega, by omega, rune_pre, ?_⟩, fun hlt => ?_⟩
  · have hk6 : k < 6 := by omega
    obtain ⟨p1, p2⟩ := pow16 hk6
    have hc := hb.get k
    have hd := drop_get (l := l) (k := k) (by omega)
    generalize l.getD k 0 = c at *
    have hr := rune_range hc
    have hdb := dig_bd c
    have hnf : numF (c :: l.drop (k + 1)) n = if digZ c < 0 then none else numF (l.drop (k + 1)) (16 * n + digZ c) := rfl
    rw [hd, hnf] at he
    refine ⟨fun h128 => ⟨sib_pre (by decide), ?_⟩, fun h128 => ?_⟩
    · rw [dig_idx hc h128]
      refine ⟨fun hneg => ?_, fun hneg => ?_⟩
      · rw [if_pos hneg] at he
        refine hfin _ ?_
        unfold charZ
        rw [he]
        rfl
      · rw [if_neg hneg] at he
        rw [shl4 h0 (by omega) (by omega) (by omega)]
        refine ⟨⟨k + 1, _, rfl, by omega, he, by omega, by omega⟩, ?_⟩
        simp only [Nm, List.getD_cons_zero, List.getD_cons_succ, asInt_int]
        omega
    · rw [if_pos (dig_high (by omega))] at he
      refine hfin _ ?_
      unfold charZ
      rw [he]
      rfl
  · have : k = 6 := by omega
    subst this
    have hnf : numF [] n = some n := rfl
    rw [List.drop_of_length_le (by omega), hnf] at he
    have hch : charZ l = if badN n then none else some n := by unfold charZ; rw [he]
    rw [hch] at hfin
    by_cases hbad : badN n
    · rw [if_pos hbad] at hfin
      unfold badN at hbad
      repeat' (first
        | exact hfin _ rfl
        | (exfalso; omega)
        | (refine ⟨fun _ => ?_, fun _ => ?_⟩))
    · rw [if_neg hbad] at hfin
      unfold badN at hbad
      repeat' (first
        | exact hfin _ rfl
        | (exfalso; omega)
        | (refine ⟨fun _ => ?_, fun _ => ?_⟩)))) rfl

def textT (l : List Int) : TV := match textZ l with
  | some o => .agg [.str (unbs (encZ o)), .int 0]
  | none => .agg [.str [], .int 17]
theorem textT_some {l o : List Int} (h : textZ l = some o) : textT l = .agg [.str (unbs (encZ o)), .int 0] := by unfold textT; rw [h]
theorem textT_none {l : List Int} (h : textZ l = none) : textT l = .agg [.str [], .int 17] := by unfold textT; rw [h]
theorem Run.snoc {l : List Int} (h : Run l) {n : Int} (h0 : -2147483648 ≤ n) (h1 : n ≤ 2147483647) : Run (l ++ [n]) := fun m hm => by
  rcases List.mem_append.1 hm with hm | hm
  · exact h m hm
  · simp at hm; omega
theorem charZ_ch {l : List Int} {n : Int} (h : charZ l = some n) (hb : Byte l) : 0 ≤ n ∧ n ≤ 1114111 ∧ charZ l ≠ none := by
  refine ⟨?_, ?_, by rw [h]; simp⟩
  all_goals
    unfold charZ at h
    split at h
    · rename_i m hm
      split at h
      · cases h
      · rename_i hbad
        simp only [Option.some.injEq] at h
        subst h
        have := (numF_bd l 0 m hm (by omega)).1
        unfold badN at hbad
        omega
    · cases h
def textL : Law := ⟨fun ts => ∃ (l : List Int), ts = [ints l] ∧ (Byte l ∧ l.length ≤ 1000000), fun ts z₀ => ∀ (l : List Int), ts = [ints l] → z₀ = textT l⟩
theorem text_pre {l : List Int} (h : Byte l ∧ l.length ≤ 1000000) : textL.pre [ints l] := ⟨l, rfl, h⟩
theorem text_fin {l : List Int} {z₀ : TV} (h : z₀ = textT l) : textL.post [ints l] z₀ := fun l₁ e => by
  simp only [List.cons.injEq, TV.str.injEq, TV.int.injEq, TV.bool.injEq, TV.agg.injEq, TV.list.injEq, ints_eq, and_true, true_and, and_assoc] at e; subst e
  exact h
theorem text_all {l : List Int} {Q : TV → Prop} : (∀ z₀, textL.post [ints l] z₀ → Q z₀) ↔ Q (textT l) := ⟨fun h => h _ (text_fin rfl), fun h z₀ hr => by rw [hr _ rfl]; exact h⟩
def TI (l : List Int) (xs : List TV) : Prop := ∃ m o : List Int, xs = [ints m, ints o] ∧ textZ l = (textZ m).map (o ++ ·) ∧ Byte m ∧ Run o ∧ o.length + m.length ≤ l.length
def Tm (xs : List TV) : Nat := (xs.getD 0 (.int 0)).asList.length
theorem map_snocs {o : List Int} {n : Int} (x : Option (List Int)) : (x.map (n :: ·)).map (o ++ ·) = x.map ((o ++ [n]) ++ ·) := by cases x <;> simp
theorem text_c (k : Nat) : Contract Tryd.prog (mkEnv globT []) gtab (sn_computerbraille_Text k) textL.pre textL.post := Contract.env (Γ := mkEnv globT [encL, runeL, numL]) (contract_computerbraille_Text (fun _ => rfl) (fun s hs => by
    simp only [cx_computerbraille_Text, List.mem_cons, List.not_mem_nil, or_false] at hs
    rcases hs with rfl | rfl | rfl
    · exact Contract.inEnv rfl (enc_c 0) rfl
    · exact Contract.inEnv rfl (rune_c 1) rfl
    · exact Contract.inEnv rfl (num_c 2) rfl) k (by
  rintro ts hl ⟨l, rfl, hp⟩
  have hfin : ∀ z₀ : TV, z₀ = textT l → textL.post [ints l] z₀ := fun z₀ h => text_fin h
  generalize textL.post [ints l] = R at hfin ⊢
  unfold tr_computerbraille_Text
  obtain ⟨hb, hsz⟩ := hp
  simp only [Tree.den, E.den, P1.den, P2.den, P3.den, List.map_cons, List.map_nil, List.cons_append, List.nil_append, List.getD_cons_zero, List.getD_cons_succ, List.getElem?_cons_zero, List.getElem?_cons_succ, asInt_int, asBool_bool, asStr_str, asList_list, cells_agg, TV.cell, pre_zero, pre_succ, post_zero, post_succ, decide_eq_true_eq, decide_eq_false_iff_not, beq_iff_eq, beq_eq_false_iff_ne, Bool.not_eq_true', Bool.not_eq_false', ne_eq, List.length_cons, List.length_nil, forall_eq, Bool.false_eq_true, Bool.true_eq_false, Int.reduceToNat, Option.some.injEq, exists_eq_left', ints_drop]
  simp only [Tree.den, E.den, P1.den, P2.den, P3.den, List.map_cons, List.map_nil, List.cons_append, List.nil_append, List.getD_cons_zero, List.getD_cons_succ, List.getElem?_cons_zero, List.getElem?_cons_succ, asInt_int, asBool_bool, asStr_str, asList_list, cells_agg, TV.cell, pre_zero, pre_succ, post_zero, post_succ, decide_eq_true_eq, decide_eq_false_iff_not, beq_iff_eq, beq_eq_false_iff_ne, Bool.not_eq_true', Bool.not_eq_false', ne_eq, List.length_cons, List.length_nil, forall_eq, Bool.false_eq_true, Bool.true_eq_false, Int.reduceToNat, Option.some.injEq, exists_eq_left', ints_asList, map_snoc, map_app, list_map, ints_nil, ints_get, ints_len, bs_get, Int.toNat_natCast, List.length_append, List.length_map, bs_length, ints_drop]
  refine ⟨TI l, Tm, ⟨l, [], rfl, by cases textZ l <;> simp, hb, fun n hn => (by cases hn), by simp⟩, ?_⟩
  rintro xs _ ⟨m, o, rfl, he, hbm, hro, hlen⟩
  have hD : Tm [ints m, ints o] = m.length := ints_len m
  have l1 : ∀ z : Int, TV.list [.int z] = ints [z] := fun _ => rfl
  simp only [Tree.den, E.den, P1.den, P2.den, P3.den, List.map_cons, List.map_nil, List.cons_append, List.nil_append, List.getD_cons_zero, List.getD_cons_succ, List.getElem?_cons_zero, List.getElem?_cons_succ, asInt_int, asBool_bool, asStr_str, asList_list, cells_agg, TV.cell, pre_zero, pre_succ, post_zero, post_succ, decide_eq_true_eq, decide_eq_false_iff_not, beq_iff_eq, beq_eq_false_iff_ne, Bool.not_eq_true', Bool.not_eq_false', ne_eq, List.length_cons, List.length_nil, forall_eq, Bool.false_eq_true, Bool.true_eq_false, Int.reduceToNat, Option.some.injEq, exists_eq_left', ints_asList, map_snoc, map_app, list_map, ints_nil, ints_get, ints_len, bs_get, Int.toNat_natCast, List.length_append, List.length_map, bs_length, hD, rune_all, enc_all, ints_drop]
  simp only [ints_sub]
  simp only [Tree.den, E.den, P1.den, P2.den, P3.den, List.map_cons, List.map_nil, List.cons_append, List.nil_append, List.getD_cons_zero, List.getD_cons_succ, List.getElem?_cons_zero, List.getElem?_cons_succ, asInt_int, asBool_bool, asStr_str, asList_list, cells_agg, TV.cell, pre_zero, pre_succ, post_zero, post_succ, decide_eq_true_eq, decide_eq_false_iff_not, beq_iff_eq, beq_eq_false_iff_ne, Bool.not_eq_true', Bool.not_eq_false', ne_eq, List.length_cons, List.length_nil, forall_eq, Bool.false_eq_true, Bool.true_eq_false, Int.reduceToNat, Option.some.injEq, exists_eq_left', ints_asList, map_snoc, map_app, list_map, ints_nil, ints_get, ints_len, bs_get, Int.toNat_natCast, List.length_append, List.length_map, bs_length, num_all]
  refine ⟨fun hlt => ⟨by omega, rune_pre, by omega, ?_⟩, fun hlt => ?_⟩
  · have hm : 0 < m.length := by omega
    have hd := drop_get hm
    rw [List.drop_zero, Nat.zero_add] at hd
    have hc := hbm.get 0
    generalize m.getD 0 0 = c at *
    have hr := rune_range hc
    have htz := textZ_cons c (m.drop 1)
    rw [← hd] at htz
    have hdl : (m.drop 1).length = m.length - 1 := List.length_drop
    have hdd : (m.drop 1).drop 6 = m.drop 7 := by rw [List.drop_drop]
    refine ⟨fun h255 => ⟨fun h7 => ?_, fun h7 => ⟨by omega, num_pre ⟨(hbm.drop 1).take 6, by rw [List.length_take]; omega⟩, ?_⟩⟩, fun h255 => ⟨fun h65 => ?_, fun h65 => ⟨by omega, by omega, ?_⟩⟩⟩
    · rw [if_pos h255, if_pos (by omega)] at htz
      exact hfin _ (textT_none (by rw [he, htz]; rfl)).symm
    · rw [if_pos h255, if_neg (by omega), hdd] at htz
      simp only [show 7 - 1 = 6 from rfl]
      cases hch : charZ ((m.drop 1).take 6) with
      | none =>
        rw [hch] at htz
        simp only [Option.getD_none]
        refine ⟨fun _ => hfin _ (textT_none (by rw [he, htz]; rfl)).symm, fun h => by omega⟩
      | some n =>
        rw [hch] at htz
        obtain ⟨hn0, hn1, _⟩ := charZ_ch hch ((hbm.drop 1).take 6)
        simp only [Option.getD_some]
        refine ⟨fun h => by omega, fun _ => ⟨by omega, by omega, ⟨m.drop 7, o ++ [n], rfl, ?_, hbm.drop 7, hro.snoc (by omega) (by omega), ?_⟩, ?_⟩⟩
        · rw [he, htz]; dsimp only; rw [map_snocs]
        · rw [List.length_append, List.length_drop, List.length_singleton]; omega
        · simp only [Tm, List.getD_cons_zero, ints_len, List.length_drop]; omega
    · rw [if_neg h255, if_pos h65] at htz
      exact hfin _ (textT_none (by rw [he, htz]; rfl)).symm
    · rw [if_neg h255, if_neg h65] at htz
      refine ⟨⟨m.drop 1, o ++ [runeZ c], rfl, ?_, hbm.drop 1, hro.snoc (by omega) (by omega), ?_⟩, ?_⟩
      · rw [he, htz, map_snocs]
      · rw [List.length_append, List.length_singleton]; omega
      · simp only [Tm, List.getD_cons_zero, ints_len]; omega
  · have hm : m = [] := List.eq_nil_of_length_eq_zero (by omega)
    subst hm
    refine ⟨enc_pre ⟨hro, by omega⟩, hfin _ ?_⟩
    rw [textT_some (o := o) (by rw [he]; simp [textZ_nil])])) rfl

def rtextL : Law := ⟨fun ts => ∃ (l : List Int), ts = [ints l] ∧ (Byte l ∧ l.length ≤ 1000000), fun ts z₀ => ∀ (l : List Int), ts = [ints l] → z₀ = textT l⟩
theorem rtext_pre {l : List Int} (h : Byte l ∧ l.length ≤ 1000000) : rtextL.pre [ints l] := ⟨l, rfl, h⟩
theorem rtext_fin {l : List Int} {z₀ : TV} (h : z₀ = textT l) : rtextL.post [ints l] z₀ := fun l₁ e => by
  simp only [List.cons.injEq, TV.str.injEq, TV.int.injEq, TV.bool.injEq, TV.agg.injEq, TV.list.injEq, ints_eq, and_true, true_and, and_assoc] at e; subst e
  exact h
theorem rtext_all {l : List Int} {Q : TV → Prop} : (∀ z₀, rtextL.post [ints l] z₀ → Q z₀) ↔ Q (textT l) := ⟨fun h => h _ (rtext_fin rfl), fun h z₀ hr => by rw [hr _ rfl]; exact h⟩
def XI (l : List Int) (xs : List TV) : Prop := ∃ (k : Nat) (o : List Int), xs = [.int k, ints o] ∧ textZ l = (textZ (l.drop k)).map (o ++ ·) ∧ k ≤ l.length ∧ Run o ∧ o.length ≤ k
def Xm (l : List Int) (xs : List TV) : Nat := l.length - (xs.getD 0 (.int 0)).asInt.toNat
def YI (l : List Int) (k : Nat) (xs : List TV) : Prop := ∃ (j : Nat) (n : Int), xs = [.int n, .int (j + 1 : Nat)] ∧ j ≤ 6 ∧ numF ((l.drop (k + 1)).take 6) 0 = numF (((l.drop (k + 1)).take 6).drop j) n ∧ 0 ≤ n ∧ n < 16 ^ j
def Ym (xs : List TV) : Nat := 7 - (xs.getD 1 (.int 0)).asInt.toNat
theorem getD_drop (l : List Int) (k j : Nat) : (l.drop k).getD j 0 = l.getD (k + j) 0 := by
  rw [List.getD_eq_getElem?_getD, List.getElem?_drop, List.getD_eq_getElem?_getD]
theorem getD_take (l : List Int) {k j : Nat} (h : j < k) : (l.take k).getD j 0 = l.getD j 0 := by
  rw [List.getD_eq_getElem?_getD, List.getElem?_take, if_pos h, List.getD_eq_getElem?_getD]
theorem rtext_c (k : Nat) : Contract Tryd.prog (mkEnv globT []) gtab (sn_ref51_Text k) rtextL.pre rtextL.post := Contract.env (Γ := mkEnv globT [rencL, cellL, runeL, digL]) (contract_ref51_Text (fun _ => rfl) (fun s hs => by
    simp only [cx_ref51_Text, List.mem_cons, List.not_mem_nil, or_false] at hs
    rcases hs with rfl | rfl | rfl | rfl
    · exact Contract.inEnv rfl (renc_c 0) rfl
    · exact Contract.inEnv rfl (refCell_c 1) rfl
    · exact Contract.inEnv rfl (refRune_c 2) rfl
    · exact Contract.inEnv rfl (dig_c 3) rfl) k (by
  rintro ts hl ⟨l, rfl, hp⟩
  have hfin : ∀ z₀ : TV, z₀ = textT l → rtextL.post [ints l] z₀ := fun z₀ h => rtext_fin h
  generalize rtextL.post [ints l] = R at hfin ⊢
  unfold tr_ref51_Text
  obtain ⟨hb, hsz⟩ := hp
  simp only [Tree.den, E.den, P1.den, P2.den, P3.den, List.map_cons, List.map_nil, List.cons_append, List.nil_append, List.getD_cons_zero, List.getD_cons_succ, List.getElem?_cons_zero, List.getElem?_cons_succ, asInt_int, asBool_bool, asStr_str, asList_list, cells_agg, TV.cell, pre_zero, pre_succ, post_zero, post_succ, decide_eq_true_eq, decide_eq_false_iff_not, beq_iff_eq, beq_eq_false_iff_ne, Bool.not_eq_true', Bool.not_eq_false', ne_eq, List.length_cons, List.length_nil, forall_eq, Bool.false_eq_true, Bool.true_eq_false, Int.reduceToNat, Option.some.injEq, exists_eq_left']
  simp only [Tree.den, E.den, P1.den, P2.den, P3.den, List.map_cons, List.map_nil, List.cons_append, List.nil_append, List.getD_cons_zero, List.getD_cons_succ, List.getElem?_cons_zero, List.getElem?_cons_succ, asInt_int, asBool_bool, asStr_str, asList_list, cells_agg, TV.cell, pre_zero, pre_succ, post_zero, post_succ, decide_eq_true_eq, decide_eq_false_iff_not, beq_iff_eq, beq_eq_false_iff_ne, Bool.not_eq_true', Bool.not_eq_false', ne_eq, List.length_cons, List.length_nil, forall_eq, Bool.false_eq_true, Bool.true_eq_false, Int.reduceToNat, Option.some.injEq, exists_eq_left', ints_asList, map_snoc, map_app, list_map, ints_nil, ints_get, ints_len, bs_get, Int.toNat_natCast, List.length_append, List.length_map, bs_length]
  refine ⟨XI l, Xm l, ⟨0, [], rfl, by rw [List.drop_zero]; cases textZ l <;> simp, by omega, fun n hn => (by cases hn), by simp⟩, ?_⟩
  rintro xs _ ⟨k, o, rfl, he, hk, hro, hol⟩
  have hD : Xm l [.int (k : Int), ints o] = l.length - k := rfl
  have e1 : ∀ j : Nat, j ≤ 10 → IntKind.wrap .i64 ((k : Int) + (j : Int)) = ((k + j : Nat) : Int) := fun j hj => by rw [wrap_i64 (by omega) (by omega)]; omega
  have e6 : IntKind.wrap .i64 ((k : Int) + 6) = ((k + 6 : Nat) : Int) := e1 6 (by omega)
  have e64 : IntKind.wrap .i64 ((k : Int) + 1) = ((k + 1 : Nat) : Int) := e1 1 (by omega)
  have e7 : IntKind.wrap .i64 (((k + 6 : Nat) : Int) + 1) = ((k + 7 : Nat) : Int) := by rw [wrap_i64 (by omega) (by omega)]; omega
  simp only [Tree.den, E.den, P1.den, P2.den, P3.den, List.map_cons, List.map_nil, List.cons_append, List.nil_append, List.getD_cons_zero, List.getD_cons_succ, List.getElem?_cons_zero, List.getElem?_cons_succ, asInt_int, asBool_bool, asStr_str, asList_list, cells_agg, TV.cell, pre_zero, pre_succ, post_zero, post_succ, decide_eq_true_eq, decide_eq_false_iff_not, beq_iff_eq, beq_eq_false_iff_ne, Bool.not_eq_true', Bool.not_eq_false', ne_eq, List.length_cons, List.length_nil, forall_eq, Bool.false_eq_true, Bool.true_eq_false, Int.reduceToNat, Option.some.injEq, exists_eq_left', ints_asList, map_snoc, map_app, list_map, ints_nil, ints_get, ints_len, bs_get, Int.toNat_natCast, List.length_append, List.length_map, bs_length, hD, rune_all, renc_all, pairT, e6, e64, e7]
  refine ⟨fun hlt => ⟨by omega, by omega, ?_⟩, fun hlt => ?_⟩
  · have hkl : k < l.length := by omega
    have hd := drop_get hkl
    have hc := hb.get k
    generalize l.getD k 0 = c at *
    have hr := rune_range hc
    have htz := textZ_cons c (l.drop (k + 1))
    rw [← hd] at htz
    have hdl : (l.drop (k + 1)).length = l.length - (k + 1) := List.length_drop
    have hdd : (l.drop (k + 1)).drop 6 = l.drop (k + 7) := by rw [List.drop_drop]
    refine ⟨fun h255 => ⟨by omega, by omega, rune_pre, fun h65 => ?_, fun h65 => ⟨by omega, ?_⟩⟩, fun h255 => ⟨fun h7 => ?_, fun h7 => ?_⟩⟩
    · rw [if_neg h255, if_pos h65] at htz
      exact hfin _ (textT_none (by rw [he, htz]; rfl)).symm
    · rw [if_neg h255, if_neg h65] at htz
      refine ⟨⟨k + 1, o ++ [runeZ c], rfl, ?_, by omega, hro.snoc (by omega) (by omega), ?_⟩, ?_⟩
      · rw [he, htz, map_snocs]
      · rw [List.length_append, List.length_singleton]; omega
      · simp only [Xm, List.getD_cons_zero, asInt_int]; omega
    · rw [if_pos h255, if_pos (by omega)] at htz
      exact hfin _ (textT_none (by rw [he, htz]; rfl)).symm
    · rw [if_pos h255, if_neg (by omega), hdd] at htz
      refine ⟨YI l k, Ym, ⟨0, 0, rfl, by omega, rfl, by omega, by omega⟩, ?_⟩
      rintro ys _ ⟨j, n, rfl, hj, hen, h0, h1⟩
      have hE : Ym [.int n, .int ((j + 1 : Nat) : Int)] = 7 - (j + 1) := rfl
      have ekj := e1 (j + 1) (by omega)
      have ej : IntKind.wrap .i64 (((j + 1 : Nat) : Int) + 1) = ((j + 1 + 1 : Nat) : Int) := by rw [wrap_i64 (by omega) (by omega)]; omega
      simp only [Tree.den, E.den, P1.den, P2.den, P3.den, List.map_cons, List.map_nil, List.cons_append, List.nil_append, List.getD_cons_zero, List.getD_cons_succ, List.getElem?_cons_zero, List.getElem?_cons_succ, asInt_int, asBool_bool, asStr_str, asList_list, cells_agg, TV.cell, pre_zero, pre_succ, post_zero, post_succ, decide_eq_true_eq, decide_eq_false_iff_not, beq_iff_eq, beq_eq_false_iff_ne, Bool.not_eq_true', Bool.not_eq_false', ne_eq, List.length_cons, List.length_nil, forall_eq, Bool.false_eq_true, Bool.true_eq_false, Int.reduceToNat, Option.some.injEq, exists_eq_left', ints_asList, map_snoc, map_app, list_map, ints_nil, ints_get, ints_len, bs_get, Int.toNat_natCast, List.length_append, List.length_map, bs_length, hE, dig_all, cell_all, ekj, ej, pairT]
      refine ⟨fun hlt7 => ⟨by omega, by omega, ?_⟩, fun hlt7 => ?_⟩
      · have hj6 : j < 6 := by omega
        obtain ⟨p1, p2⟩ := pow16 hj6
        have hjl : j < ((l.drop (k + 1)).take 6).length := by rw [List.length_take]; omega
        have hgd := drop_get hjl
        rw [getD_take _ hj6, getD_drop, show k + 1 + j = k + (j + 1) by omega] at hgd
        have hcj := hb.get (k + (j + 1))
        generalize l.getD (k + (j + 1)) 0 = cj at *
        have hdb := dig_bd cj
        have hnf : numF (cj :: ((l.drop (k + 1)).take 6).drop (j + 1)) n = if digZ cj < 0 then none else numF (((l.drop (k + 1)).take 6).drop (j + 1)) (16 * n + digZ cj) := rfl
        rw [hgd, hnf] at hen
        refine ⟨dig_pre hcj, fun hneg => ?_, fun hneg => ?_⟩
        · rw [if_pos hneg] at hen
          have hch : charZ ((l.drop (k + 1)).take 6) = none := by unfold charZ; rw [hen]
          rw [hch] at htz
          exact hfin _ (textT_none (by rw [he, htz]; rfl)).symm
        · rw [if_neg hneg] at hen
          rw [wrap_i32 (n := 16 * n) (by omega) (by omega), wrap_i32 (n := 16 * n + digZ cj) (by omega) (by omega)]
          refine ⟨⟨j + 1, _, rfl, by omega, hen, by omega, by omega⟩, ?_⟩
          simp only [Ym, List.getD_cons_zero, List.getD_cons_succ, asInt_int]
          omega
      · have : j = 6 := by omega
        subst this
        have hnf : numF [] n = some n := rfl
        have hd6 : ((l.drop (k + 1)).take 6).drop 6 = [] := List.drop_of_length_le (by rw [List.length_take]; omega)
        rw [hd6, hnf] at hen
        have hch : charZ ((l.drop (k + 1)).take 6) = if badN n then none else some n := by unfold charZ; rw [hen]
        rw [hch] at htz
        have hh := hasZ_iff (a := n)
        refine ⟨cell_pre (by omega) (by omega), ?_⟩
        by_cases hbad : badN n
        · rw [if_pos hbad] at htz
          have hno := (textT_none (l := l) (by rw [he, htz]; rfl)).symm
          unfold badN at hbad
          repeat' (first
            | exact hfin _ hno
            | (exfalso; simp only [hasZ, Bool.and_eq_true, Bool.and_eq_false_iff, decide_eq_true_eq, decide_eq_false_iff_not] at *; omega)
            | (refine ⟨fun _ => ?_, fun _ => ?_⟩))
        · rw [if_neg hbad] at htz
          dsimp only at htz
          have go : XI l [.int ((k + 7 : Nat) : Int), ints (o ++ [n])] ∧ Xm l [.int ((k + 7 : Nat) : Int), ints (o ++ [n])] < l.length - k := by
            refine ⟨⟨k + 7, o ++ [n], rfl, by rw [he, htz, map_snocs], by omega, hro.snoc (by omega) (by omega), by rw [List.length_append, List.length_singleton]; omega⟩, ?_⟩
            simp only [Xm, List.getD_cons_zero, asInt_int]; omega
          unfold badN at hbad
          repeat' (first
            | exact go
            | (exfalso; simp only [hasZ, Bool.and_eq_true, Bool.and_eq_false_iff, decide_eq_true_eq, decide_eq_false_iff_not] at *; omega)
            | (refine ⟨by omega, go⟩)
            | (refine ⟨fun _ => ?_, fun _ => ?_⟩))
  · have : k = l.length := by omega
    subst this
    refine ⟨renc_pre ⟨hro, by omega⟩, hfin _ ?_⟩
    rw [textT_some (o := o) (by rw [he, List.drop_of_length_le (Nat.le_refl _)]; simp [textZ_nil])])) rfl

/-! ### Bytes of cells -/
theorem fin_valid {s : List UInt8} (h : validB s) : ∃ l, Chars l ∧ bs s = encZ l ∧ fin (bs s) = l := by
  obtain ⟨l, h1, h2⟩ := h
  refine ⟨l, h1, h2, ?_⟩
  rw [h2, fin_encZ, chZs_of h1]
theorem fin_len' (s : List UInt8) : (fin (bs s)).length ≤ s.length := by have := fin_len (bs s); rw [bs_length] at this; exact this
theorem cells_len (s : List UInt8) : (cellsZ (fin (bs s))).length ≤ 7 * s.length := by
  have h1 := fin_len' s
  have h2 := cellsZ_len (fin (bs s))
  omega
theorem cell_byte (x : Int) : 0 ≤ cellZ x ∧ cellZ x ≤ 255 := by
  unfold cellZ
  split
  · omega
  · have key : ∀ i : Nat, 0 ≤ brailleZ.getD i 0 ∧ brailleZ.getD i 0 ≤ 255 := fun i => by
      rcases Nat.lt_or_ge i 95 with h | h
      · have key : ∀ i : Fin 95, 0 ≤ brailleZ.getD i.val 0 ∧ brailleZ.getD i.val 0 ≤ 255 := by decide +kernel
        exact key ⟨i, h⟩
      · rw [List.getD_eq_getElem?_getD, List.getElem?_eq_none (by rw [braille_len]; exact h)]
        decide
    exact key _
theorem one_byte (r : Int) : Byte (oneZ r) := fun b hb => by
  unfold oneZ at hb
  split at hb
  · simp at hb; subst hb; exact cell_byte _
  · unfold escZ at hb
    simp only [List.mem_cons, List.not_mem_nil, or_false] at hb
    rcases hb with rfl | rfl | rfl | rfl | rfl | rfl | rfl
    · omega
    all_goals exact cell_byte _
theorem cells_byte (l : List Int) : Byte (cellsZ l) := fun b hb => by
  obtain ⟨r, _, hb⟩ := List.mem_flatMap.1 hb
  exact one_byte r b hb
theorem cellsZ_append (l m : List Int) : cellsZ (l ++ m) = cellsZ l ++ cellsZ m := by simp [cellsZ, List.flatMap_append]
theorem textT_cases (l : List Int) : ∃ s e, textT l = .agg [.str s, .int e] ∧ ((e = 0 ∧ ∃ o, textZ l = some o ∧ s = unbs (encZ o)) ∨ (e = 17 ∧ s = [] ∧ textZ l = none)) := by
  cases h : textZ l with
  | none => exact ⟨_, _, textT_none h, .inr ⟨rfl, rfl, rfl⟩⟩
  | some o => exact ⟨_, _, textT_some h, .inl ⟨rfl, o, rfl, rfl⟩⟩
end Go.Proofs.YtbeelajedknohaaDoor
