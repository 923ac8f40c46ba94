/- The laws of layer 52 on prefixes and on other characters. -/
import Derived.Test.YtlldpcmdmipggaaDoorCnl
namespace Go.Proofs.YtlldpcmdmipggaaDoor
set_option linter.unusedSimpArgs false
set_option linter.unusedVariables false
set_option linter.unusedSectionVars false

theorem sgn_free {m n : Nat} (hm : m < 36) (hn : n < 36) (h : (sgn n).2.isPrefixOf (sgn m).2 = true) : m = n := by
  have key : ∀ m n : Fin 36, (sgn n.val).2.isPrefixOf (sgn m.val).2 = true → m = n := by decide +kernel
  exact congrArg Fin.val (key ⟨m, hm⟩ ⟨n, hn⟩ h)
theorem sgn_text {m n : Nat} (hm : m < 36) (hn : n < 36) (h : (sgn m).1 = (sgn n).1) : m = n := by
  have key : ∀ m n : Fin 36, (sgn m.val).1 = (sgn n.val).1 → m = n := by decide +kernel
  exact congrArg Fin.val (key ⟨m, hm⟩ ⟨n, hn⟩ h)
theorem sgn_less {m : Nat} (hm : m < 36) : (sgn m).2.length < (sgn m).1.length ∧ (sgn m).2 ≠ [] := by
  have key : ∀ m : Fin 36, (sgn m.val).2.length < (sgn m.val).1.length ∧ (sgn m.val).2 ≠ [] := by decide +kernel
  exact key ⟨m, hm⟩
theorem one_head (r : Int) : ∃ x xs, oneZ r = x :: xs ∧ (x < 128 ∨ x = 255) := by
  unfold oneZ
  split
  · exact ⟨_, [], rfl, .inl (cell_small r)⟩
  · exact ⟨255, hexL r, esc_hex r, .inr rfl⟩
theorem sign_not_one {s : List UInt8 × List UInt8} (hs : s ∈ signsB) (r : Int) : s.2.isPrefixOf (unbs (oneZ r)) = false ∧ (unbs (oneZ r)).isPrefixOf s.2 = false := by
  obtain ⟨x, xs, e, hx⟩ := one_head r
  have hb := one_byte r
  have hh := signs_head s hs
  have h2 := (signs_two s hs).2.2.1
  rw [e] at hb
  have hx0 := hb x (by simp)
  cases hsb : bs s.2 with
  | nil => rw [← bs_length, hsb] at h2; simp at h2
  | cons y ys =>
    rw [hsb] at hh
    simp only [List.getD_cons_zero] at hh
    have e2 : bs (unbs (oneZ r)) = x :: xs := by rw [e, bs_unbs hb]
    constructor
    · rw [← bs_prefix, hsb, e2, Bool.eq_false_iff]
      intro h
      have := (List.cons_prefix_cons.1 (List.isPrefixOf_iff_prefix.1 h)).1
      omega
    · rw [← bs_prefix, hsb, e2, Bool.eq_false_iff]
      intro h
      have := (List.cons_prefix_cons.1 (List.isPrefixOf_iff_prefix.1 h)).1
      omega
theorem lawPrefix_c (k : Nat) : Contract Tryd.prog (mkEnv globT []) gtab (sn_law52_ContractionPrefix k) (trueL prefP).pre (trueL prefP).post := Contract.env (Γ := mkEnv globT [encL, cellsL, hpL, ctabL, awakeL]) (contract_law52_ContractionPrefix (fun _ => rfl) (fun s hs => by
    simp only [cx_law52_ContractionPrefix, List.mem_cons, List.not_mem_nil, or_false] at hs
    rcases hs with rfl | rfl | rfl | rfl | rfl
    · exact Contract.inEnv rfl (enc_c 0) rfl
    · exact Contract.inEnv rfl (progCells_c 1) rfl
    · exact Contract.inEnv rfl (hp_c 2) rfl
    · exact Contract.inEnv rfl (ctab_c 3) rfl
    · exact Contract.inEnv rfl (awake_c 4) rfl) k (by
  rintro ts hl ⟨i, j, r, rfl, ⟨hi0, hi1⟩, ⟨hj0, hj1⟩, hr⟩
  unfold tr_law52_ContractionPrefix
  obtain ⟨a, rfl⟩ := Int.eq_ofNat_of_zero_le hi0
  obtain ⟨b, rfl⟩ := Int.eq_ofNat_of_zero_le hj0
  have ea : (IntKind.wrap .i64 (a : Int)).tmod 36 = ((a % 36 : Nat) : Int) := by rw [wrap_i64 (by omega) (by omega), Int.tmod_eq_emod_of_nonneg (by omega)]; omega
  have eb : (IntKind.wrap .i64 (b : Int)).tmod 36 = ((b % 36 : Nat) : Int) := by rw [wrap_i64 (by omega) (by omega), Int.tmod_eq_emod_of_nonneg (by omega)]; omega
  have ha : a % 36 < 36 := Nat.mod_lt _ (by omega)
  have hb : b % 36 < 36 := Nat.mod_lt _ (by omega)
  have a1 := strs_get1 ha
  have a2 := strs_get2 ha
  have b1 := strs_get1 hb
  have b2 := strs_get2 hb
  have l1 : TV.list [.int r] = ints [r] := rfl
  generalize a % 36 = m at *
  generalize b % 36 = n at *
  obtain ⟨hn1, hn2⟩ := sign_not_one (sgn_mem ha) (chZ r)
  obtain ⟨hless, hne⟩ := sgn_less ha
  have h2 := sgn_two ha
  have h2b := sgn_two hb
  have hone := oneZ_len (chZ r)
  have hou := unbs_len_eq (oneZ (chZ r))
  have h1 := encZ_len [r]
  have h3 := unbs_len_eq (encZ [r])
  simp only [List.length_singleton] at h1
  simp only [Tree.den, E.den, P1.den, P2.den, P3.den, List.map_cons, List.map_nil, List.cons_append, List.nil_append, List.getD_cons_zero, List.getD_cons_succ, List.getElem?_cons_zero, List.getElem?_cons_succ, asInt_int, asBool_bool, asStr_str, asList_list, cells_agg, TV.cell, pre_zero, pre_succ, post_zero, post_succ, decide_eq_true_eq, decide_eq_false_iff_not, beq_iff_eq, beq_eq_false_iff_ne, Bool.not_eq_true', Bool.not_eq_false', ne_eq, List.length_cons, List.length_nil, forall_eq, Bool.false_eq_true, Bool.true_eq_false, Int.reduceToNat, Option.some.injEq, exists_eq_left', awake_all, ctab_all, textsT_list, cellsT_list, l1, enc_all]
  simp only [Tree.den, E.den, P1.den, P2.den, P3.den, List.map_cons, List.map_nil, List.cons_append, List.nil_append, List.getD_cons_zero, List.getD_cons_succ, List.getElem?_cons_zero, List.getElem?_cons_succ, asInt_int, asBool_bool, asStr_str, asList_list, cells_agg, TV.cell, pre_zero, pre_succ, post_zero, post_succ, decide_eq_true_eq, decide_eq_false_iff_not, beq_iff_eq, beq_eq_false_iff_ne, Bool.not_eq_true', Bool.not_eq_false', ne_eq, List.length_cons, List.length_nil, forall_eq, Bool.false_eq_true, Bool.true_eq_false, Int.reduceToNat, Option.some.injEq, exists_eq_left', ints_asList, map_snoc, map_app, list_map, ints_nil, ints_get, ints_len, bs_get, Int.toNat_natCast, List.length_append, List.length_map, bs_length, ea, eb, signs_len, cells_all, bs_unbs_enc, one_enc, a1, a2, b1, b2, hp_all, byteOf_unbs, awake_all]
  have q1 : encL.pre [ints [r]] := enc_pre ⟨fun n hn => by simp at hn; omega, by simp⟩
  have q2 : cellsL.pre [.str (unbs (encZ [r]))] := cells_pre (by omega)
  refine ⟨ctab_pre, fun h => absurd (by first | rfl | trivial) h, fun _ => ⟨fun h => absurd (by first | rfl | trivial) h, fun _ => ⟨q1, q2, fun hmn => ⟨by omega, by omega, by omega, by omega, hp_pre (by omega), fun h => absurd (sgn_free ha hb h) (by omega), fun _ => ⟨by omega, by omega, by omega, by omega, fun h => absurd (sgn_text ha hb h) (by omega), fun _ => ?_⟩⟩, fun hmn => ?_⟩⟩⟩
  all_goals
    refine ⟨by omega, by omega, fun _ => ⟨by omega, by omega, hp_pre (by omega), fun _ => ⟨by omega, by omega, hp_pre (by omega), fun _ => ⟨by omega, by omega, by omega, by omega, fun _ => ⟨awake_pre, rfl⟩, fun h => absurd hless (by omega)⟩, fun h => by rw [hn2] at h; cases h⟩, fun h => by rw [hn1] at h; cases h⟩, fun h => absurd h hne⟩)) rfl
theorem other_ch {r : Int} (h : ¬ (97 ≤ r ∧ r ≤ 122)) : ¬ (97 ≤ chZ r ∧ chZ r ≤ 122) := by
  unfold chZ
  split <;> omega
theorem chZ_is (r : Int) : isCh (chZ r) := chZs_ch [r] _ (by simp)
theorem fin_other {a b : List Int} (ha : Plain a) (hb : Plain b) (r : Int) : Go.Proofs.YtlldpcmdmipggaaDoor.fin (bs (unbs a ++ unbs (encZ [r]) ++ unbs b)) = a ++ chZ r :: b := by
  have e : encZ (a ++ r :: b) = a ++ (encZ [r] ++ b) := by
    rw [show a ++ r :: b = a ++ ([r] ++ b) by simp, encZ_append, encZ_append, ha.enc, hb.enc]
  have hby : Byte (a ++ (encZ [r] ++ b)) := by rw [← e]; exact fun x hx => encZ_byte hx
  rw [unbs_app, unbs_app, List.append_assoc, bs_unbs hby, ← e, fin_encZ, List.map_append, List.map_cons, chZs_of ha.chars, chZs_of hb.chars]
theorem lawOther_c (k : Nat) : Contract Tryd.prog (mkEnv globT []) gtab (sn_law52_ContractionOther k) (trueL otherP).pre (trueL otherP).post := Contract.env (Γ := mkEnv globT [encL, cellsL, lengthL, awakeL, plainL]) (contract_law52_ContractionOther (fun _ => rfl) (fun s hs => by
    simp only [cx_law52_ContractionOther, List.mem_cons, List.not_mem_nil, or_false] at hs
    rcases hs with rfl | rfl | rfl | rfl | rfl
    · exact Contract.inEnv rfl (enc_c 0) rfl
    · exact Contract.inEnv rfl (progCells_c 1) rfl
    · exact Contract.inEnv rfl (length_c 2) rfl
    · exact Contract.inEnv rfl (awake_c 3) rfl
    · exact Contract.inEnv rfl (plain_c 4) rfl) k (by
  rintro ts hl ⟨a, b, r, rfl, ha, hb, hr⟩
  unfold tr_law52_ContractionOther
  have hpa := plain_plain ha
  have hpb := plain_plain hb
  have hla : (plainZ a).length = a.length := by unfold plainZ; rw [List.length_map]
  have hlb : (plainZ b).length = b.length := by unfold plainZ; rw [List.length_map]
  have hfo := fin_other hpa hpb r
  have l1 : TV.list [.int r] = ints [r] := rfl
  have h1 := encZ_len [r]
  have h3 := unbs_len_eq (encZ [r])
  have u1 := unbs_len_eq (plainZ a)
  have u2 := unbs_len_eq (plainZ b)
  simp only [List.length_singleton] at h1
  have hone := oneZ_len (chZ r)
  have ta := tot_bd (plainZ a)
  have tb := tot_bd (plainZ b)
  simp only [Tree.den, E.den, P1.den, P2.den, P3.den, List.map_cons, List.map_nil, List.cons_append, List.nil_append, List.getD_cons_zero, List.getD_cons_succ, List.getElem?_cons_zero, List.getElem?_cons_succ, asInt_int, asBool_bool, asStr_str, asList_list, cells_agg, TV.cell, pre_zero, pre_succ, post_zero, post_succ, decide_eq_true_eq, decide_eq_false_iff_not, beq_iff_eq, beq_eq_false_iff_ne, Bool.not_eq_true', Bool.not_eq_false', ne_eq, List.length_cons, List.length_nil, forall_eq, Bool.false_eq_true, Bool.true_eq_false, Int.reduceToNat, Option.some.injEq, exists_eq_left', awake_all, plain_all, l1, enc_all]
  simp only [Tree.den, E.den, P1.den, P2.den, P3.den, List.map_cons, List.map_nil, List.cons_append, List.nil_append, List.getD_cons_zero, List.getD_cons_succ, List.getElem?_cons_zero, List.getElem?_cons_succ, asInt_int, asBool_bool, asStr_str, asList_list, cells_agg, TV.cell, pre_zero, pre_succ, post_zero, post_succ, decide_eq_true_eq, decide_eq_false_iff_not, beq_iff_eq, beq_eq_false_iff_ne, Bool.not_eq_true', Bool.not_eq_false', ne_eq, List.length_cons, List.length_nil, forall_eq, Bool.false_eq_true, Bool.true_eq_false, Int.reduceToNat, Option.some.injEq, exists_eq_left', ints_asList, map_snoc, map_app, list_map, ints_nil, ints_get, ints_len, bs_get, Int.toNat_natCast, List.length_append, List.length_map, bs_length, awake_all, length_all, hfo, hpa.fin, hpb.fin, cells_all, bs_unbs_enc, one_enc]
  have q1 : encL.pre [ints [r]] := enc_pre ⟨fun n hn => by simp at hn; omega, by simp⟩
  have q2 : cellsL.pre [.str (unbs (encZ [r]))] := cells_pre (by omega)
  have e1 : IntKind.wrap .i64 (IntKind.wrap .i64 ((totZ (plainZ a) : Int) + ((oneZ (chZ r)).length : Int)) + (totZ (plainZ b) : Int)) = ((totZ (plainZ a) + (oneZ (chZ r)).length + totZ (plainZ b) : Nat) : Int) ∨ ¬ (a.length ≤ 30 ∧ b.length ≤ 30) := by
    by_cases h : a.length ≤ 30 ∧ b.length ≤ 30
    · left
      rw [wrap_i64 (n := (totZ (plainZ a) : Int) + ((oneZ (chZ r)).length : Int)) (by omega) (by omega), wrap_i64 (by omega) (by omega)]
      omega
    · exact .inr h
  refine ⟨fun _ => ⟨awake_pre, rfl⟩, fun h30 => ⟨fun _ => ⟨awake_pre, rfl⟩, fun h31 => ⟨fun h97 => ⟨fun _ => ⟨awake_pre, rfl⟩, fun h122 => ?_⟩, fun h97 => ?_⟩⟩⟩
  all_goals
    have hs := tot_sep (plainZ a) (plainZ b) (other_ch (r := r) (by omega))
    rw [chZ_of (chZ_is r)] at hs
    have e2 := e1.resolve_right (fun h => h ⟨by omega, by omega⟩)
    rw [e2]
    refine ⟨plain_pre ⟨ha, by omega⟩, plain_pre ⟨hb, by omega⟩, q1, by omega, by omega, length_pre (by simp only [List.length_append]; omega), length_pre (by omega), q2, length_pre (by omega), fun _ => ⟨awake_pre, rfl⟩, fun h => absurd ?_ h⟩
    omega)) rfl
end Go.Proofs.YtlldpcmdmipggaaDoor
