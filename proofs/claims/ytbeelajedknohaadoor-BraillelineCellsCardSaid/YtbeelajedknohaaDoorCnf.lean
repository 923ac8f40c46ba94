/- The contracts of the reference of layer 52: Back, costs, Translate. -/
import Derived.Test.YtbeelajedknohaaDoorCne
namespace Go.Proofs.YtbeelajedknohaaDoor
set_option linter.unusedSimpArgs false
set_option linter.unusedVariables false
set_option linter.unusedSectionVars false

def RbI (l : List Int) (xs : List TV) : Prop := ∃ (k : Nat) (o : List Int), xs = [.str (unbs (encZ o)), .int k] ∧ backZ l = (backZ (l.drop k)).map (o ++ ·) ∧ k ≤ l.length ∧ o.length ≤ 4 * k
def Rbm (l : List Int) (xs : List TV) : Nat := l.length - (xs.getD 1 (.int 0)).asInt.toNat
def rbackL : Law := ⟨fun ts => ∃ (l : List Int), ts = [ints l] ∧ (Byte l ∧ l.length ≤ 1000000), fun ts z₀ => ∀ (l : List Int), ts = [ints l] → z₀ = backT l⟩
theorem rback_pre {l : List Int} (h : Byte l ∧ l.length ≤ 1000000) : rbackL.pre [ints l] := ⟨l, rfl, h⟩
theorem rback_fin {l : List Int} {z₀ : TV} (h : z₀ = backT l) : rbackL.post [ints l] z₀ := fun l₁ e => by
  simp only [List.cons.injEq, TV.str.injEq, TV.int.injEq, TV.bool.injEq, TV.agg.injEq, TV.list.injEq, ints_eq, and_true, true_and, and_assoc] at e; subst e
  exact h
theorem rback_all {l : List Int} {Q : TV → Prop} : (∀ z₀, rbackL.post [ints l] z₀ → Q z₀) ↔ Q (backT l) := ⟨fun h => h _ (rback_fin rfl), fun h z₀ hr => by rw [hr _ rfl]; exact h⟩
theorem rback_c (k : Nat) : Contract Tryd.prog (mkEnv globT []) gtab (sn_ref52_Back k) rbackL.pre rbackL.post := Contract.env (Γ := mkEnv globT [rtextL, findL]) (contract_ref52_Back (fun _ => rfl) (fun s hs => by
    simp only [cx_ref52_Back, List.mem_cons, List.not_mem_nil, or_false] at hs
    rcases hs with rfl | rfl
    · exact Contract.inEnv rfl (rtext_c 0) rfl
    · exact Contract.inEnv rfl (find_c 1) rfl) k (by
  rintro ts hl ⟨l, rfl, hp⟩
  have hfin : ∀ z₀ : TV, z₀ = backT l → rbackL.post [ints l] z₀ := fun z₀ h => rback_fin h
  generalize rbackL.post [ints l] = R at hfin ⊢
  unfold tr_ref52_Back
  obtain ⟨hb, hsz⟩ := hp
  simp only [Tree.den, E.den, P1.den, P2.den, P3.den, List.map_cons, List.map_nil, List.cons_append, List.nil_append, List.getD_cons_zero, List.getD_cons_succ, List.getElem?_cons_zero, List.getElem?_cons_succ, asInt_int, asBool_bool, asStr_str, asList_list, cells_agg, TV.cell, pre_zero, pre_succ, post_zero, post_succ, decide_eq_true_eq, decide_eq_false_iff_not, beq_iff_eq, beq_eq_false_iff_ne, Bool.not_eq_true', Bool.not_eq_false', ne_eq, List.length_cons, List.length_nil, forall_eq, Bool.false_eq_true, Bool.true_eq_false, Int.reduceToNat, Option.some.injEq, exists_eq_left', ints_drop]
  simp only [Tree.den, E.den, P1.den, P2.den, P3.den, List.map_cons, List.map_nil, List.cons_append, List.nil_append, List.getD_cons_zero, List.getD_cons_succ, List.getElem?_cons_zero, List.getElem?_cons_succ, asInt_int, asBool_bool, asStr_str, asList_list, cells_agg, TV.cell, pre_zero, pre_succ, post_zero, post_succ, decide_eq_true_eq, decide_eq_false_iff_not, beq_iff_eq, beq_eq_false_iff_ne, Bool.not_eq_true', Bool.not_eq_false', ne_eq, List.length_cons, List.length_nil, forall_eq, Bool.false_eq_true, Bool.true_eq_false, Int.reduceToNat, Option.some.injEq, exists_eq_left', ints_asList, map_snoc, map_app, list_map, ints_nil, ints_get, ints_len, bs_get, Int.toNat_natCast, List.length_append, List.length_map, bs_length, ints_drop]
  refine ⟨RbI l, Rbm l, ⟨0, [], rfl, by rw [List.drop_zero]; cases backZ l <;> simp, by omega, by simp⟩, ?_⟩
  rintro xs _ ⟨k, o, rfl, he, hk, hol⟩
  have hD : ∀ z, Rbm l [z, .int (k : Int)] = l.length - k := fun _ => rfl
  have e1 : IntKind.wrap .i64 ((k : Int) + 1) = ((k + 1 : Nat) : Int) := by rw [wrap_i64 (by omega) (by omega)]; omega
  have e7 : IntKind.wrap .i64 ((k : Int) + 7) = ((k + 7 : Nat) : Int) := by rw [wrap_i64 (by omega) (by omega)]; omega
  have em : IntKind.wrap .i64 ((l.length : Int) - (k : Int)) = ((l.length : Int) - (k : Int)) := by rw [wrap_i64 (by omega) (by omega)]
  have s1 : k + 1 - k = 1 := by omega
  have s7 : k + 7 - k = 7 := by omega
  simp only [Tree.den, E.den, P1.den, P2.den, P3.den, List.map_cons, List.map_nil, List.cons_append, List.nil_append, List.getD_cons_zero, List.getD_cons_succ, List.getElem?_cons_zero, List.getElem?_cons_succ, asInt_int, asBool_bool, asStr_str, asList_list, cells_agg, TV.cell, pre_zero, pre_succ, post_zero, post_succ, decide_eq_true_eq, decide_eq_false_iff_not, beq_iff_eq, beq_eq_false_iff_ne, Bool.not_eq_true', Bool.not_eq_false', ne_eq, List.length_cons, List.length_nil, forall_eq, Bool.false_eq_true, Bool.true_eq_false, Int.reduceToNat, Option.some.injEq, exists_eq_left', ints_asList, map_snoc, map_app, list_map, ints_nil, ints_get, ints_len, bs_get, Int.toNat_natCast, List.length_append, List.length_map, bs_length, hD, e1, e7, em, s1, s7, ints_drop, ints_sub, find_all]
  have hel := encZ_len o
  have hul := unbs_len_eq (encZ o)
  refine ⟨fun hlt => ⟨by omega, by omega, find_pre ⟨hb.drop k, by rw [List.length_drop]; omega⟩, ?_⟩, fun hlt => ?_⟩
  · have hkl : k < l.length := by omega
    have hd := drop_get hkl
    have hc := hb.get k
    generalize hc0 : l.getD k 0 = c at *
    have hbc := back_cons c (l.drop (k + 1))
    rw [← hd] at hbc
    have hdl : (l.drop (k + 1)).length = l.length - (k + 1) := List.length_drop
    have hdk : (l.drop k).length = l.length - k := List.length_drop
    cases hf : findS (l.drop k) with
    | some x =>
      rw [hf] at hbc
      dsimp only at hbc
      obtain ⟨hx, hxp⟩ := find_mem hf
      have hx2 := signs_two x hx
      have hxl := find_len hf
      have hft : findT (l.drop k) = .agg [.str x.1, .int x.2.length] := by unfold findT; rw [hf]
      have hse := sign_enc hx
      have ex : IntKind.wrap .i64 ((k : Int) + (x.2.length : Int)) = ((k + x.2.length : Nat) : Int) := by rw [wrap_i64 (by omega) (by omega)]; omega
      simp only [hft, Tree.den, E.den, P1.den, P2.den, P3.den, List.map_cons, List.map_nil, List.cons_append, List.nil_append, List.getD_cons_zero, List.getD_cons_succ, List.getElem?_cons_zero, List.getElem?_cons_succ, asInt_int, asBool_bool, asStr_str, asList_list, cells_agg, TV.cell, pre_zero, pre_succ, post_zero, post_succ, decide_eq_true_eq, decide_eq_false_iff_not, beq_iff_eq, beq_eq_false_iff_ne, Bool.not_eq_true', Bool.not_eq_false', ne_eq, List.length_cons, List.length_nil, forall_eq, Bool.false_eq_true, Bool.true_eq_false, Int.reduceToNat, Option.some.injEq, exists_eq_left', ints_asList, map_snoc, map_app, list_map, ints_nil, ints_get, ints_len, bs_get, Int.toNat_natCast, List.length_append, List.length_map, bs_length, ex]
      refine ⟨fun h => by omega, fun _ => ⟨by omega, ⟨k + x.2.length, o ++ bs x.1, ?_, ?_, by omega, by rw [List.length_append, bs_length]; omega⟩, ?_⟩⟩
      · rw [encZ_append, hse, ← unbs_app, unbs_bs]
      · rw [he, hbc, map_comp_app, List.drop_drop]
      · simp only [Rbm, List.getD_cons_zero, List.getD_cons_succ, asInt_int]; omega
    | none =>
      rw [hf] at hbc
      dsimp only at hbc
      have hft : findT (l.drop k) = .agg [.str [], .int 0] := by unfold findT; rw [hf]
      simp only [hft, Tree.den, E.den, P1.den, P2.den, P3.den, List.map_cons, List.map_nil, List.cons_append, List.nil_append, List.getD_cons_zero, List.getD_cons_succ, List.getElem?_cons_zero, List.getElem?_cons_succ, asInt_int, asBool_bool, asStr_str, asList_list, cells_agg, TV.cell, pre_zero, pre_succ, post_zero, post_succ, decide_eq_true_eq, decide_eq_false_iff_not, beq_iff_eq, beq_eq_false_iff_ne, Bool.not_eq_true', Bool.not_eq_false', ne_eq, List.length_cons, List.length_nil, forall_eq, Bool.false_eq_true, Bool.true_eq_false, Int.reduceToNat, Option.some.injEq, exists_eq_left', ints_asList, map_snoc, map_app, list_map, ints_nil, ints_get, ints_len, bs_get, Int.toNat_natCast, List.length_append, List.length_map, bs_length, rtext_all]
      have htl : ∀ n, k + n ≤ l.length → ((l.drop k).take n).length = n := fun n h => by rw [List.length_take]; omega
      have go : ∀ (n : Nat) (o' : List Int), 1 ≤ n → n ≤ 7 → k + n ≤ l.length → textZ ((l.drop k).take n) = some o' → backZ (l.drop k) = (backZ ((l.drop k).drop n)).map (o' ++ ·) →
          RbI l [.str (unbs (encZ o) ++ unbs (encZ o')), .int ((k + n : Nat) : Int)] ∧ Rbm l [.str (unbs (encZ o) ++ unbs (encZ o')), .int ((k + n : Nat) : Int)] < l.length - k := by
        intro n o' h1 h7 hn ht hbk
        have hol' := text_len n ((l.drop k).take n) o' (by rw [htl n hn]; omega) ht
        rw [htl n hn] at hol'
        refine ⟨⟨k + n, o ++ o', ?_, ?_, by omega, by rw [List.length_append]; omega⟩, ?_⟩
        · rw [unbs_app, encZ_append]
        · rw [he, hbk, map_comp_app, List.drop_drop]
        · simp only [Rbm, List.getD_cons_zero, List.getD_cons_succ, asInt_int]; omega
      have arm : ∀ n : Nat, 1 ≤ n → n ≤ 7 → k + n ≤ l.length → (backZ (l.drop k) = match textZ ((l.drop k).take n) with | some o => (backZ ((l.drop k).drop n)).map (o ++ ·) | none => none) →
          (¬((textT ((l.drop k).take n)).cells.getD 1 (TV.int 0)).asInt = 0 → R (TV.agg [TV.str [], TV.int 17])) ∧
            (((textT ((l.drop k).take n)).cells.getD 1 (TV.int 0)).asInt = 0 → (((unbs (encZ o)).length + ((textT ((l.drop k).take n)).cells.getD 0 (TV.int 0)).asStr.length : Nat) : Int) ≤ 9223372036854775807 ∧
              RbI l [.str (unbs (encZ o) ++ ((textT ((l.drop k).take n)).cells.getD 0 (TV.int 0)).asStr), .int ((k + n : Nat) : Int)] ∧ Rbm l [.str (unbs (encZ o) ++ ((textT ((l.drop k).take n)).cells.getD 0 (TV.int 0)).asStr), .int ((k + n : Nat) : Int)] < l.length - k) := by
        intro n h1 h7 hn hbk
        cases ht : textZ ((l.drop k).take n) with
        | none =>
          rw [ht] at hbk
          rw [textT_none ht]
          exact ⟨fun _ => hfin _ (backT_none (by rw [he, hbk]; rfl)).symm, fun h => absurd h (by decide)⟩
        | some o' =>
          rw [ht] at hbk
          rw [textT_some ht]
          have hol' := text_len n ((l.drop k).take n) o' (by rw [htl n hn]; omega) ht
          rw [htl n hn] at hol'
          have hel' := encZ_len o'
          have hul' := unbs_len_eq (encZ o')
          refine ⟨fun h => absurd rfl h, fun _ => ⟨?_, go n o' h1 h7 hn ht hbk⟩⟩
          show (((unbs (encZ o)).length + (unbs (encZ o')).length : Nat) : Int) ≤ 9223372036854775807
          omega
      refine ⟨fun _ => ⟨by omega, by omega, fun h255 => ⟨fun h7 => ?_, fun h7 => ⟨by omega, by omega, by omega, by omega, rtext_pre ⟨(hb.drop k).take 7, by rw [htl 7 (by omega)]; omega⟩, ?_⟩⟩, fun h255 => ⟨fun h1 => by omega, fun h1 => ⟨by omega, by omega, by omega, by omega, rtext_pre ⟨(hb.drop k).take 1, by rw [htl 1 (by omega)]; omega⟩, ?_⟩⟩⟩, fun h => by first | (exact h.elim) | (exact absurd rfl h) | (exact absurd trivial h)⟩
      · rw [if_pos h255, if_pos (by omega)] at hbc
        exact hfin _ (backT_none (by rw [he, hbc]; rfl)).symm
      · rw [if_pos h255, if_neg (by omega)] at hbc
        exact arm 7 (by omega) (by omega) (by omega) hbc
      · rw [if_neg h255, if_neg (by omega)] at hbc
        exact arm 1 (by omega) (by omega) (by omega) hbc
  · have : k = l.length := by omega
    subst this
    rw [List.drop_of_length_le (Nat.le_refl _), back_nil] at he
    exact hfin _ (by rw [backT_some (o := o) (by rw [he]; simp)]))) rfl

/-! ### costs -/
def totL (us : List U) : List Int := us.map fun u => (u.total : Int)
theorem totL_len (us : List U) : (totL us).length = us.length := by simp [totL]
theorem totL_get (us : List U) (i : Nat) : (totL us).getD i 0 = ((us.getD i zU).total : Int) := by
  unfold totL
  rw [List.getD_eq_getElem?_getD, List.getElem?_map, List.getD_eq_getElem?_getD]
  cases us[i]? <;> rfl
theorem totL_set (us : List U) (i : Nat) (u : U) : TV.list (((totL us).map TV.int).set i (.int (u.total : Int))) = ints (totL (us.set i u)) := by
  unfold ints totL
  rw [List.map_set, List.map_set]
theorem better_total (l : List Int) (t : Nat → Nat) (b : U) (s : List UInt8 × List UInt8) : (betterU l t b s).total = if beginsZ l s.1 = true then min b.total (s.2.length + t s.1.length) else b.total := by
  unfold betterU
  split
  · split
    · rename_i h
      dsimp only
      omega
    · omega
  · rfl
def totU (n : Nat) : U := ⟨0, [], n⟩
theorem totL_tri (i : Nat) (b b' : U) (t : List U) (h : b.total = b'.total) : totL (tri i b t) = totL (tri i b' t) := by
  unfold totL tri
  rw [List.map_append, List.map_append, List.map_cons, List.map_cons, h]
def CoI (l : List Int) (xs : List TV) : Prop := ∃ k : Nat, xs = [.int ((k : Int) - 1), ints (totL (List.replicate k zU ++ tabU (l.drop k)))] ∧ k ≤ l.length
def CpI (r : Int) (m : List Int) (i : Nat) (xs : List TV) : Prop := ∃ j : Nat, xs = [.int j, ints (totL (tri i (foldU r m j) (tabU m)))] ∧ j ≤ 36
def costsL : Law := ⟨fun ts => ∃ (l : List Int), ts = [ints l] ∧ (Run l ∧ l.length ≤ 1000000), fun ts z₀ => ∀ (l : List Int), ts = [ints l] → z₀ = ints (totL (tabU l))⟩
theorem costs_pre {l : List Int} (h : Run l ∧ l.length ≤ 1000000) : costsL.pre [ints l] := ⟨l, rfl, h⟩
theorem costs_fin {l : List Int} {z₀ : TV} (h : z₀ = ints (totL (tabU l))) : costsL.post [ints l] z₀ := fun l₁ e => by
  simp only [List.cons.injEq, TV.str.injEq, TV.int.injEq, TV.bool.injEq, TV.agg.injEq, TV.list.injEq, ints_eq, and_true, true_and, and_assoc] at e; subst e
  exact h
theorem costs_all {l : List Int} {Q : TV → Prop} : (∀ z₀, costsL.post [ints l] z₀ → Q z₀) ↔ Q (ints (totL (tabU l))) := ⟨fun h => h _ (costs_fin rfl), fun h z₀ hr => by rw [hr _ rfl]; exact h⟩
theorem costs_c (k : Nat) : Contract Tryd.prog (mkEnv globT []) gtab (sn_ref52_costs k) costsL.pre costsL.post := Contract.env (Γ := mkEnv globT [textsL, rsignsL, startsL, singleL]) (contract_ref52_costs (fun _ => rfl) (fun s hs => by
    simp only [cx_ref52_costs, List.mem_cons, List.not_mem_nil, or_false] at hs
    rcases hs with rfl | rfl | rfl | rfl
    · exact Contract.inEnv rfl (texts_c 0) rfl
    · exact Contract.inEnv rfl (rsigns_c 1) rfl
    · exact Contract.inEnv rfl (starts_c 2) rfl
    · exact Contract.inEnv rfl (single_c 3) rfl) k (by
  rintro ts hl ⟨l, rfl, hp⟩
  have hfin : ∀ z₀ : TV, z₀ = ints (totL (tabU l)) → costsL.post [ints l] z₀ := fun z₀ h => costs_fin h
  generalize costsL.post [ints l] = R at hfin ⊢
  unfold tr_ref52_costs
  obtain ⟨hrun, hsz⟩ := hp
  simp only [Tree.den, E.den, P1.den, P2.den, P3.den, List.map_cons, List.map_nil, List.cons_append, List.nil_append, List.getD_cons_zero, List.getD_cons_succ, List.getElem?_cons_zero, List.getElem?_cons_succ, asInt_int, asBool_bool, asStr_str, asList_list, cells_agg, TV.cell, pre_zero, pre_succ, post_zero, post_succ, decide_eq_true_eq, decide_eq_false_iff_not, beq_iff_eq, beq_eq_false_iff_ne, Bool.not_eq_true', Bool.not_eq_false', ne_eq, List.length_cons, List.length_nil, forall_eq, Bool.false_eq_true, Bool.true_eq_false, Int.reduceToNat, Option.some.injEq, exists_eq_left', texts_all, rsigns_all]
  simp only [Tree.den, E.den, P1.den, P2.den, P3.den, List.map_cons, List.map_nil, List.cons_append, List.nil_append, List.getD_cons_zero, List.getD_cons_succ, List.getElem?_cons_zero, List.getElem?_cons_succ, asInt_int, asBool_bool, asStr_str, asList_list, cells_agg, TV.cell, pre_zero, pre_succ, post_zero, post_succ, decide_eq_true_eq, decide_eq_false_iff_not, beq_iff_eq, beq_eq_false_iff_ne, Bool.not_eq_true', Bool.not_eq_false', ne_eq, List.length_cons, List.length_nil, forall_eq, Bool.false_eq_true, Bool.true_eq_false, Int.reduceToNat, Option.some.injEq, exists_eq_left', ints_asList, map_snoc, map_app, list_map, ints_nil, ints_get, ints_len, bs_get, Int.toNat_natCast, List.length_append, List.length_map, bs_length]
  have e1 : IntKind.wrap .i64 ((l.length : Int) + 1) = ((l.length + 1 : Nat) : Int) := by rw [wrap_i64 (by omega) (by omega)]; omega
  have e2 : IntKind.wrap .i64 ((l.length : Int) - 1) = (l.length : Int) - 1 := by rw [wrap_i64 (by omega) (by omega)]
  rw [e1, e2]
  simp only [Int.toNat_natCast]
  refine ⟨by omega, by omega, by omega, texts_pre, rsigns_pre, CoI l, Dvm, ⟨l.length, ?_, Nat.le_refl _⟩, ?_⟩
  · rw [List.drop_of_length_le (Nat.le_refl _)]
    unfold totL ints
    rw [List.map_append, List.map_replicate, List.map_append, List.map_replicate, List.replicate_succ']
    rfl
  rintro xs _ ⟨k, rfl, hk⟩
  have hD : ∀ z, Dvm [.int ((k : Int) - 1), z] = k := fun z => by
    simp only [Dvm, List.getD_cons_zero, asInt_int]; omega
  rw [hD]
  simp only [Tree.den, E.den, P1.den, P2.den, P3.den, List.map_cons, List.map_nil, List.cons_append, List.nil_append, List.getD_cons_zero, List.getD_cons_succ, List.getElem?_cons_zero, List.getElem?_cons_succ, asInt_int, asBool_bool, asStr_str, asList_list, cells_agg, TV.cell, pre_zero, pre_succ, post_zero, post_succ, decide_eq_true_eq, decide_eq_false_iff_not, beq_iff_eq, beq_eq_false_iff_ne, Bool.not_eq_true', Bool.not_eq_false', ne_eq, List.length_cons, List.length_nil, forall_eq, Bool.false_eq_true, Bool.true_eq_false, Int.reduceToNat, Option.some.injEq, exists_eq_left', ints_asList, map_snoc, map_app, list_map, ints_nil, ints_get, ints_len, bs_get, Int.toNat_natCast, List.length_append, List.length_map, bs_length, textsT_list, cellsT_list, signs_len]
  refine ⟨fun hlt => ?_, fun hlt => ?_⟩
  · obtain ⟨i, rfl⟩ : ∃ i, k = i + 1 := ⟨k - 1, by omega⟩
    have ei : ((i + 1 : Nat) : Int) - 1 = (i : Int) := by omega
    have e64 : IntKind.wrap .i64 ((i : Int) + 1) = ((i + 1 : Nat) : Int) := by rw [wrap_i64 (n := (i : Int) + 1) (by omega) (by omega)]; omega
    have e65 : IntKind.wrap .i64 ((i : Int) - 1) = (i : Int) - 1 := by rw [wrap_i64 (by omega) (by omega)]
    have hil : i < l.length := by omega
    have hdl := drop_get hil
    have hrr : -2147483648 ≤ l.getD i 0 ∧ l.getD i 0 ≤ 2147483647 := hrun _ (by rw [List.getD_eq_getElem?_getD, List.getElem?_eq_getElem hil]; exact List.getElem_mem hil)
    generalize hr : l.getD i 0 = r at *
    generalize hm : l.drop (i + 1) = m at *
    have hml : m.length = l.length - (i + 1) := by rw [← hm, List.length_drop]
    have hone := oneZ_len (chZ r)
    have ht0 := tab_total m 0
    have hbt := tri_up i zU (tabU m)
    rw [hbt]
    have hlen : ∀ b, (totL (tri i b (tabU m))).length = l.length + 1 := fun b => by rw [totL_len, tri_len, tab_length]; omega
    simp only [ei, e64, e65, hr, single_all, Tree.den, E.den, P1.den, P2.den, P3.den, List.map_cons, List.map_nil, List.cons_append, List.nil_append, List.getD_cons_zero, List.getD_cons_succ, List.getElem?_cons_zero, List.getElem?_cons_succ, asInt_int, asBool_bool, asStr_str, asList_list, cells_agg, TV.cell, pre_zero, pre_succ, post_zero, post_succ, decide_eq_true_eq, decide_eq_false_iff_not, beq_iff_eq, beq_eq_false_iff_ne, Bool.not_eq_true', Bool.not_eq_false', ne_eq, List.length_cons, List.length_nil, forall_eq, Bool.false_eq_true, Bool.true_eq_false, Int.reduceToNat, Option.some.injEq, exists_eq_left', ints_asList, map_snoc, map_app, list_map, ints_nil, ints_get, ints_len, bs_get, Int.toNat_natCast, List.length_append, List.length_map, bs_length, hlen, totL_get]
    rw [tri_next i zU (tabU m) (by omega : 1 ≤ 1), Nat.sub_self]
    rw [show IntKind.wrap .i64 (((oneZ (chZ r)).length : Int) + (((tabU m).getD 0 zU).total : Int)) = ((firstU r ((tabU m).getD 0 zU).total).total : Int) by rw [wrap_i64 (by omega) (by omega)]; unfold firstU; dsimp only; omega]
    rw [totL_set, tri_set]
    refine ⟨by omega, by omega, by omega, by omega, single_pre hrr, by omega, by omega, CpI r m i, Dwm, ⟨0, rfl, by omega⟩, ?_⟩
    rintro ys _ ⟨j, rfl, hj⟩
    have hE : ∀ z, Dwm [.int (j : Int), z] = 36 - j := fun z => rfl
    have ej : IntKind.wrap .i64 ((j : Int) + 1) = ((j + 1 : Nat) : Int) := by rw [wrap_i64 (n := (j : Int) + 1) (by omega) (by omega)]; omega
    rw [hE]
    simp only [Tree.den, E.den, P1.den, P2.den, P3.den, List.map_cons, List.map_nil, List.cons_append, List.nil_append, List.getD_cons_zero, List.getD_cons_succ, List.getElem?_cons_zero, List.getElem?_cons_succ, asInt_int, asBool_bool, asStr_str, asList_list, cells_agg, TV.cell, pre_zero, pre_succ, post_zero, post_succ, decide_eq_true_eq, decide_eq_false_iff_not, beq_iff_eq, beq_eq_false_iff_ne, Bool.not_eq_true', Bool.not_eq_false', ne_eq, List.length_cons, List.length_nil, forall_eq, Bool.false_eq_true, Bool.true_eq_false, Int.reduceToNat, Option.some.injEq, exists_eq_left', ints_asList, map_snoc, map_app, list_map, ints_nil, ints_get, ints_len, bs_get, Int.toNat_natCast, List.length_append, List.length_map, bs_length, textsT_list, cellsT_list, signs_len, ej, hlen, totL_get]
    refine ⟨fun hlj => ?_, fun hlj => ?_⟩
    · have hj36 : j < 36 := by omega
      have hs2 := sgn_two hj36
      have hfb := foldU_bd r m j hj
      have hstep := foldU_step r m hj36
      rw [strs_get1 hj36, strs_get2 hj36]
      have hsub : TV.list (((l.map TV.int).drop i).take (l.length - i)) = ints (r :: m) := by rw [ints_drop, hdl]
      rw [hsub]
      simp only [starts_all, Tree.den, E.den, P1.den, P2.den, P3.den, List.map_cons, List.map_nil, List.cons_append, List.nil_append, List.getD_cons_zero, List.getD_cons_succ, List.getElem?_cons_zero, List.getElem?_cons_succ, asInt_int, asBool_bool, asStr_str, asList_list, cells_agg, TV.cell, pre_zero, pre_succ, post_zero, post_succ, decide_eq_true_eq, decide_eq_false_iff_not, beq_iff_eq, beq_eq_false_iff_ne, Bool.not_eq_true', Bool.not_eq_false', ne_eq, List.length_cons, List.length_nil, forall_eq, Bool.false_eq_true, Bool.true_eq_false, Int.reduceToNat, Option.some.injEq, exists_eq_left', ints_asList, map_snoc, map_app, list_map, ints_nil, ints_get, ints_len, bs_get, Int.toNat_natCast, List.length_append, List.length_map, bs_length]
      have hbt2 := better_total (r :: m) (fun n => ((tabU m).getD (n - 1) zU).total) (foldU r m j) (sgn j)
      rw [← hstep] at hbt2
      refine ⟨by omega, by omega, by omega, by omega, starts_pre (by rw [List.length_cons]; omega), fun hyes => ?_, fun hno => ⟨⟨j + 1, ?_, by omega⟩, ?_⟩⟩
      · have hyes : beginsZ (r :: m) (sgn j).1 = true := by
          by_cases h : beginsZ (r :: m) (sgn j).1 = true
          · exact h
          · rw [if_neg h] at hyes; omega
        rw [if_pos hyes] at hbt2 ⊢
        have hbl := begins_len hyes
        rw [List.length_cons] at hbl
        have htt := tab_total m ((sgn j).1.length - 1)
        have en : IntKind.wrap .i64 ((i : Int) + ((sgn j).1.length : Int)) = ((i + (sgn j).1.length : Nat) : Int) := by rw [wrap_i64 (by omega) (by omega)]; omega
        simp only [en, Int.toNat_natCast]
        rw [tri_next i _ (tabU m) (by omega), tri_here]
        have et : min ((foldU r m j).total : Int) (IntKind.wrap .i64 (((sgn j).2.length : Int) + (((tabU m).getD ((sgn j).1.length - 1) zU).total : Int))) = ((foldU r m (j + 1)).total : Int) := by rw [wrap_i64 (by omega) (by omega), hbt2]; omega
        rw [et, totL_set, tri_set]
        refine ⟨by omega, by omega, by omega, by omega, by omega, by omega, by omega, by omega, ⟨j + 1, rfl, by omega⟩, ?_⟩
        simp only [Dwm, List.getD_cons_zero, asInt_int]; omega
      · have hno : ¬ beginsZ (r :: m) (sgn j).1 = true := fun h => hno (by rw [if_pos h]; omega)
        rw [if_neg hno] at hbt2
        rw [totL_tri i _ _ (tabU m) hbt2]
      · simp only [Dwm, List.getD_cons_zero, asInt_int]; omega
    · have : j = 36 := by omega
      subst this
      refine ⟨⟨i, ?_, by omega⟩, ?_⟩
      · rw [hdl, foldU_all]
        rfl
      · simp only [Dvm, List.getD_cons_zero, asInt_int]; omega
  · have : k = 0 := by omega
    subst this
    exact hfin _ rfl)) rfl
end Go.Proofs.YtbeelajedknohaaDoor
