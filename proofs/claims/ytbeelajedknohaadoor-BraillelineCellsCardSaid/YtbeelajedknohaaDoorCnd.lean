/- The contract of Back. -/
import Derived.Test.YtbeelajedknohaaDoorCnc
namespace Go.Proofs.YtbeelajedknohaaDoor
set_option linter.unusedSimpArgs false
set_option linter.unusedVariables false
set_option linter.unusedSectionVars false

def backT (l : List Int) : TV := match backZ l with
  | some o => .agg [.str (unbs (encZ o)), .int 0]
  | none => .agg [.str [], .int 17]
theorem backT_some {l o : List Int} (h : backZ l = some o) : backT l = .agg [.str (unbs (encZ o)), .int 0] := by unfold backT; rw [h]
theorem backT_none {l : List Int} (h : backZ l = none) : backT l = .agg [.str [], .int 17] := by unfold backT; rw [h]
theorem unbs_take (l : List Int) (k : Nat) : (unbs l).take k = unbs (l.take k) := by simp [unbs, List.map_take]
theorem unbs_drop (l : List Int) (k : Nat) : (unbs l).drop k = unbs (l.drop k) := by simp [unbs, List.map_drop]
theorem unbs_app (l m : List Int) : unbs l ++ unbs m = unbs (l ++ m) := by simp [unbs]
theorem bytes_ints (s : List UInt8) : TV.list (s.map fun b => TV.int b.toNat) = ints (bs s) := by simp [ints, bs]
theorem bytes_ints' (s : List UInt8) : (s.map fun b => TV.int b.toNat) = (bs s).map TV.int := by simp [bs]
theorem enc_small {l : List Int} (h : ∀ n ∈ l, 97 ≤ n ∧ n ≤ 122) : encZ l = l := by
  induction l with
  | nil => rfl
  | cons n l ih =>
    have hn := h n (by simp)
    have e1 : Lib.encodeRuneZ n = [n] := by
      unfold Lib.encodeRuneZ
      rw [if_pos (by omega)]
    show Lib.encodeRuneZ n ++ encZ l = n :: l
    rw [e1, ih fun m hm => h m (by simp [hm])]
    rfl
theorem sign_enc {s : List UInt8 × List UInt8} (h : s ∈ signsB) : encZ (bs s.1) = bs s.1 := enc_small fun n hn => by
  obtain ⟨b, hb, rfl⟩ := List.mem_map.1 hn
  have := signs_small s h b hb
  omega
theorem sign_run {s : List UInt8 × List UInt8} (h : s ∈ signsB) : Run (bs s.1) := fun n hn => by
  have := bs_mem hn
  omega
theorem Run.app {l m : List Int} (h : Run l) (k : Run m) : Run (l ++ m) := fun n hn => by
  rcases List.mem_append.1 hn with hn | hn
  · exact h n hn
  · exact k n hn
theorem find_len {l : List Int} {s : List UInt8 × List UInt8} (h : findS l = some s) : s.2.length ≤ l.length := by
  have := (List.isPrefixOf_iff_prefix.1 (find_mem h).2).length_le
  rwa [bs_length] at this
def BkI (l : List Int) (xs : List TV) : Prop := ∃ m o : List Int, xs = [.str (unbs m), ints (encZ o)] ∧ backZ l = (backZ m).map (o ++ ·) ∧ Byte m ∧ m.length ≤ l.length ∧ o.length ≤ 4 * (l.length - m.length)
def Bkm (xs : List TV) : Nat := (xs.getD 0 (.int 0)).asStr.length
theorem byteOf_unbs (l : List Int) : (l.map TV.int).map byteOf = unbs l := byteOf_ints l
def backL : Law := ⟨fun ts => ∃ (l : List Int), ts = [ints l] ∧ (Byte l ∧ l.length ≤ 1000000), fun ts z₀ => ∀ (l : List Int), ts = [ints l] → z₀ = backT l⟩
theorem back_pre {l : List Int} (h : Byte l ∧ l.length ≤ 1000000) : backL.pre [ints l] := ⟨l, rfl, h⟩
theorem back_fin {l : List Int} {z₀ : TV} (h : z₀ = backT l) : backL.post [ints l] z₀ := fun l₁ e => by
  simp only [List.cons.injEq, TV.str.injEq, TV.int.injEq, TV.bool.injEq, TV.agg.injEq, TV.list.injEq, ints_eq, and_true, true_and, and_assoc] at e; subst e
  exact h
theorem back_all {l : List Int} {Q : TV → Prop} : (∀ z₀, backL.post [ints l] z₀ → Q z₀) ↔ Q (backT l) := ⟨fun h => h _ (back_fin rfl), fun h z₀ hr => by rw [hr _ rfl]; exact h⟩
theorem back_c (k : Nat) : Contract Tryd.prog (mkEnv globT []) gtab (sn_contraction_Back k) backL.pre backL.post := Contract.env (Γ := mkEnv globT [textL, signsL, firstL]) (contract_contraction_Back (fun _ => rfl) (fun s hs => by
    simp only [cx_contraction_Back, List.mem_cons, List.not_mem_nil, or_false] at hs
    rcases hs with rfl | rfl | rfl
    · exact Contract.inEnv rfl (text_c 0) rfl
    · exact Contract.inEnv rfl (signs_c 1) rfl
    · exact Contract.inEnv rfl (first_c 2) rfl) k (by
  rintro ts hl ⟨l, rfl, hp⟩
  have hfin : ∀ z₀ : TV, z₀ = backT l → backL.post [ints l] z₀ := fun z₀ h => back_fin h
  generalize backL.post [ints l] = R at hfin ⊢
  unfold tr_contraction_Back
  obtain ⟨hb, hsz⟩ := hp
  simp only [Tree.den, E.den, P1.den, P2.den, P3.den, List.map_cons, List.map_nil, List.cons_append, List.nil_append, List.getD_cons_zero, List.getD_cons_succ, List.getElem?_cons_zero, List.getElem?_cons_succ, asInt_int, asBool_bool, asStr_str, asList_list, cells_agg, TV.cell, pre_zero, pre_succ, post_zero, post_succ, decide_eq_true_eq, decide_eq_false_iff_not, beq_iff_eq, beq_eq_false_iff_ne, Bool.not_eq_true', Bool.not_eq_false', ne_eq, List.length_cons, List.length_nil, forall_eq, Bool.false_eq_true, Bool.true_eq_false, Int.reduceToNat, Option.some.injEq, exists_eq_left', signs_all]
  simp only [Tree.den, E.den, P1.den, P2.den, P3.den, List.map_cons, List.map_nil, List.cons_append, List.nil_append, List.getD_cons_zero, List.getD_cons_succ, List.getElem?_cons_zero, List.getElem?_cons_succ, asInt_int, asBool_bool, asStr_str, asList_list, cells_agg, TV.cell, pre_zero, pre_succ, post_zero, post_succ, decide_eq_true_eq, decide_eq_false_iff_not, beq_iff_eq, beq_eq_false_iff_ne, Bool.not_eq_true', Bool.not_eq_false', ne_eq, List.length_cons, List.length_nil, forall_eq, Bool.false_eq_true, Bool.true_eq_false, Int.reduceToNat, Option.some.injEq, exists_eq_left', ints_asList, map_snoc, map_app, list_map, ints_nil, ints_get, ints_len, bs_get, Int.toNat_natCast, List.length_append, List.length_map, bs_length, byteOf_unbs]
  refine ⟨signs_pre, BkI l, Bkm, ⟨l, [], rfl, by cases backZ l <;> simp, hb, by omega, by simp⟩, ?_⟩
  rintro xs _ ⟨m, o, rfl, he, hbm, hml, hol⟩
  have hul := unbs_len_eq m
  have hD : ∀ z, Bkm [.str (unbs m), z] = m.length := fun z => hul
  have hbu := bs_unbs hbm
  have hel := encZ_len o
  simp only [Tree.den, E.den, P1.den, P2.den, P3.den, List.map_cons, List.map_nil, List.cons_append, List.nil_append, List.getD_cons_zero, List.getD_cons_succ, List.getElem?_cons_zero, List.getElem?_cons_succ, asInt_int, asBool_bool, asStr_str, asList_list, cells_agg, TV.cell, pre_zero, pre_succ, post_zero, post_succ, decide_eq_true_eq, decide_eq_false_iff_not, beq_iff_eq, beq_eq_false_iff_ne, Bool.not_eq_true', Bool.not_eq_false', ne_eq, List.length_cons, List.length_nil, forall_eq, Bool.false_eq_true, Bool.true_eq_false, Int.reduceToNat, Option.some.injEq, exists_eq_left', ints_asList, map_snoc, map_app, list_map, ints_nil, ints_get, ints_len, bs_get, Int.toNat_natCast, List.length_append, List.length_map, bs_length, hD, first_all, hbu, byteOf_unbs]
  refine ⟨fun hne => ?_, fun hnil => ?_⟩
  · have hpos : 0 < m.length := by
      rcases Nat.eq_zero_or_pos m.length with h | h
      · rw [List.eq_nil_of_length_eq_zero h] at hne
        exact absurd rfl hne
      · exact h
    refine ⟨first_pre (by omega), ?_⟩
    have hmc := drop_get hpos
    rw [List.drop_zero, Nat.zero_add] at hmc
    have hc := hbm.get 0
    generalize hc0 : m.getD 0 0 = c at *
    have hbc := back_cons c (m.drop 1)
    rw [← hmc] at hbc
    have hdl : (m.drop 1).length = m.length - 1 := List.length_drop
    cases hf : findS m with
    | some x =>
      rw [hf] at hbc
      dsimp only at hbc
      obtain ⟨hx, hxp⟩ := find_mem hf
      have hx2 := signs_two x hx
      have hxl := find_len hf
      have hft : firstT m = .agg [sT x, .bool true] := by unfold firstT; rw [hf]
      have hse := sign_enc hx
      simp only [hft, Tree.den, E.den, P1.den, P2.den, P3.den, List.map_cons, List.map_nil, List.cons_append, List.nil_append, List.getD_cons_zero, List.getD_cons_succ, List.getElem?_cons_zero, List.getElem?_cons_succ, asInt_int, asBool_bool, asStr_str, asList_list, cells_agg, TV.cell, pre_zero, pre_succ, post_zero, post_succ, decide_eq_true_eq, decide_eq_false_iff_not, beq_iff_eq, beq_eq_false_iff_ne, Bool.not_eq_true', Bool.not_eq_false', ne_eq, List.length_cons, List.length_nil, forall_eq, Bool.false_eq_true, Bool.true_eq_false, Int.reduceToNat, Option.some.injEq, exists_eq_left', ints_asList, map_snoc, map_app, list_map, ints_nil, ints_get, ints_len, bs_get, Int.toNat_natCast, List.length_append, List.length_map, bs_length, sT_cells, bytes_ints']
      refine ⟨fun _ => ⟨by omega, by omega, by omega, ⟨m.drop x.2.length, o ++ bs x.1, ?_, ?_, hbm.drop _, by rw [List.length_drop]; omega, by rw [List.length_append, List.length_drop, bs_length]; omega⟩, ?_⟩, fun h => h.elim⟩
      · rw [encZ_append, hse, unbs_drop, unbs_take, List.take_of_length_le (by rw [List.length_drop]; omega)]
      · rw [he, hbc, map_comp_app]
      · simp only [Bkm, List.getD_cons_zero, asStr_str]
        rw [unbs_drop, unbs_take, unbs_len_eq, List.take_of_length_le (by rw [List.length_drop]; omega), List.length_drop]
        omega
    | none =>
      rw [hf] at hbc
      dsimp only at hbc
      have hft : firstT m = .agg [sT ([], []), .bool false] := by unfold firstT; rw [hf]
      have hbt : ∀ n, bs (unbs (m.take n)) = m.take n := fun n => bs_unbs (hbm.take n)
      have htl : ∀ n, n ≤ m.length → (m.take n).length = n := fun n h => by rw [List.length_take]; omega
      simp only [hft, Tree.den, E.den, P1.den, P2.den, P3.den, List.map_cons, List.map_nil, List.cons_append, List.nil_append, List.getD_cons_zero, List.getD_cons_succ, List.getElem?_cons_zero, List.getElem?_cons_succ, asInt_int, asBool_bool, asStr_str, asList_list, cells_agg, TV.cell, pre_zero, pre_succ, post_zero, post_succ, decide_eq_true_eq, decide_eq_false_iff_not, beq_iff_eq, beq_eq_false_iff_ne, Bool.not_eq_true', Bool.not_eq_false', ne_eq, List.length_cons, List.length_nil, forall_eq, Bool.false_eq_true, Bool.true_eq_false, Int.reduceToNat, Option.some.injEq, exists_eq_left', ints_asList, map_snoc, map_app, list_map, ints_nil, ints_get, ints_len, bs_get, Int.toNat_natCast, List.length_append, List.length_map, bs_length, hbu, hc0, List.drop_zero, Nat.sub_zero, unbs_take, bytes_ints, bytes_ints', hbt, text_all]
      have go : ∀ (n : Nat) (o' : List Int), 1 ≤ n → n ≤ 7 → n ≤ m.length → textZ (m.take n) = some o' → backZ m = (backZ (m.drop n)).map (o' ++ ·) →
          BkI l [.str (((unbs m).drop n).take ((unbs m).length - n)), ints (encZ o ++ bs (unbs (encZ o')))] ∧ Bkm [.str (((unbs m).drop n).take ((unbs m).length - n)), ints (encZ o ++ bs (unbs (encZ o')))] < m.length := by
        intro n o' h1 h7 hn ht hbk
        have hol' := text_len n (m.take n) o' (by rw [htl n hn]; omega) ht
        rw [htl n hn] at hol'
        have hcut : ((unbs m).drop n).take ((unbs m).length - n) = unbs (m.drop n) := by rw [unbs_drop, unbs_take, List.take_of_length_le (by rw [List.length_drop]; omega)]
        rw [hcut]
        refine ⟨⟨m.drop n, o ++ o', ?_, ?_, hbm.drop n, by rw [List.length_drop]; omega, by rw [List.length_append, List.length_drop]; omega⟩, ?_⟩
        · rw [bs_unbs_enc, encZ_append]
        · rw [he, hbk, map_comp_app]
        · simp only [Bkm, List.getD_cons_zero, asStr_str]
          rw [unbs_len_eq, List.length_drop]
          omega
      have arm : ∀ n : Nat, 1 ≤ n → n ≤ 7 → n ≤ m.length → (backZ m = match textZ (m.take n) with | some o => (backZ (m.drop n)).map (o ++ ·) | none => none) →
          (¬((textT (m.take n)).cells.getD 1 (TV.int 0)).asInt = 0 → R (TV.agg [TV.str [], TV.int 17])) ∧
            (((textT (m.take n)).cells.getD 1 (TV.int 0)).asInt = 0 → (((encZ o).length + ((textT (m.take n)).cells.getD 0 (TV.int 0)).asStr.length : Nat) : Int) ≤ 1099511627776 ∧ (n : Int) ≤ (unbs m).length ∧
              BkI l [.str (((unbs m).drop n).take ((unbs m).length - n)), ints (encZ o ++ bs ((textT (m.take n)).cells.getD 0 (TV.int 0)).asStr)] ∧ Bkm [.str (((unbs m).drop n).take ((unbs m).length - n)), ints (encZ o ++ bs ((textT (m.take n)).cells.getD 0 (TV.int 0)).asStr)] < m.length) := by
        intro n h1 h7 hn hbk
        cases ht : textZ (m.take n) with
        | none =>
          rw [ht] at hbk
          rw [textT_none ht]
          exact ⟨fun _ => hfin _ (backT_none (by rw [he, hbk]; rfl)).symm, fun h => absurd h (by decide)⟩
        | some o' =>
          rw [ht] at hbk
          rw [textT_some ht]
          have hol' := text_len n (m.take n) o' (by rw [htl n hn]; omega) ht
          rw [htl n hn] at hol'
          have hel' := encZ_len o'
          have hul' := unbs_len_eq (encZ o')
          refine ⟨fun h => absurd rfl h, fun _ => ⟨?_, by omega, go n o' h1 h7 hn ht hbk⟩⟩
          show (((encZ o).length + (unbs (encZ o')).length : Nat) : Int) ≤ 1099511627776
          omega
      refine ⟨fun h => by first | (exact h.elim) | (exact absurd h (by simp)), fun _ => ⟨by omega, fun h255 => ⟨fun h7 => ?_, fun h7 => ⟨by omega, ?_, text_pre ⟨hbm.take 7, by rw [htl 7 (by omega)]; omega⟩, ?_⟩⟩, fun h255 => ⟨fun h1 => by omega, fun h1 => ⟨by omega, ?_, text_pre ⟨hbm.take 1, by rw [htl 1 (by omega)]; omega⟩, ?_⟩⟩⟩⟩
      · rw [if_pos h255, if_pos (by omega)] at hbc
        exact hfin _ (backT_none (by rw [he, hbc]; rfl)).symm
      · rw [unbs_len_eq, htl 7 (by omega)]; omega
      · rw [if_pos h255, if_neg (by omega)] at hbc
        exact arm 7 (by omega) (by omega) (by omega) hbc
      · rw [unbs_len_eq, htl 1 (by omega)]; omega
      · rw [if_neg h255, if_neg (by omega)] at hbc
        exact arm 1 (by omega) (by omega) (by omega) hbc
  · have hm : m = [] := by
      apply List.eq_nil_of_length_eq_zero
      rw [← hul]
      have : unbs m = [] := by simpa using hnil
      rw [this]
      rfl
    subst hm
    refine hfin _ ?_
    rw [backT_some (o := o) (by rw [he, back_nil]; simp)])) rfl
end Go.Proofs.YtbeelajedknohaaDoor
