/- The contracts of the reference of package cluster, of Same, awake, join. -/
import Derived.Test.YtnbbepgmnbmfdaaDoorClv
namespace Go.Proofs.YtnbbepgmnbmfdaaDoor
set_option linter.unusedSimpArgs false
set_option linter.unusedVariables false
set_option linter.unusedSectionVars false

def rencodeL : Law := ⟨fun ts => ∃ (r : Int), ts = [.int r] ∧ (-2147483648 ≤ r ∧ r ≤ 2147483647), fun ts z₀ => ∀ (r : Int), ts = [.int r] → z₀ = .str (encS [r])⟩
theorem rencode_pre {r : Int} (h : -2147483648 ≤ r ∧ r ≤ 2147483647) : rencodeL.pre [.int r] := ⟨r, rfl, h⟩
theorem rencode_fin {r : Int} {z₀ : TV} (h : z₀ = .str (encS [r])) : rencodeL.post [.int r] z₀ := fun r₁ e => by
  simp only [List.cons.injEq, TV.str.injEq, TV.int.injEq, TV.bool.injEq, TV.agg.injEq, TV.list.injEq, ints_eq, and_true, true_and, and_assoc] at e; subst e
  exact h
theorem rencode_all {r : Int} {Q : TV → Prop} : (∀ z₀, rencodeL.post [.int r] z₀ → Q z₀) ↔ Q (.str (encS [r])) := ⟨fun h => h _ (rencode_fin rfl), fun h z₀ hr => by rw [hr _ rfl]; exact h⟩
theorem rencode_c (k : Nat) : Contract Tryd.prog (mkEnv globT []) gtab (sn_ref03_encode k) rencodeL.pre rencodeL.post := Contract.env (Γ := mkEnv globT [rencL]) (contract_ref03_encode (fun _ => rfl) (fun s hs => by
    simp only [cx_ref03_encode, List.mem_cons, List.not_mem_nil, or_false] at hs
    rcases hs with rfl
    · exact Contract.inEnv rfl (renc_c 0) rfl) k (by
  rintro ts hl ⟨r, rfl, hp⟩
  have hfin : ∀ z₀ : TV, z₀ = .str (encS [r]) → rencodeL.post [.int r] z₀ := fun z₀ h => rencode_fin h
  generalize rencodeL.post [.int r] = R at hfin ⊢
  unfold tr_ref03_encode
  have l1 : TV.list [.int r] = ints [r] := rfl
  simp only [Tree.den, E.den, P1.den, P2.den, P3.den, List.map_cons, List.map_nil, List.cons_append, List.nil_append, List.getD_cons_zero, List.getD_cons_succ, List.getElem?_cons_zero, List.getElem?_cons_succ, asInt_int, asBool_bool, asStr_str, asList_list, cells_agg, TV.cell, pre_zero, pre_succ, post_zero, post_succ, decide_eq_true_eq, decide_eq_false_iff_not, beq_iff_eq, beq_eq_false_iff_ne, Bool.not_eq_true', Bool.not_eq_false', ne_eq, List.length_cons, List.length_nil, forall_eq, Bool.false_eq_true, Bool.true_eq_false, Int.reduceToNat, Option.some.injEq, exists_eq_left', l1, renc_all]
  exact ⟨renc_pre ⟨run_one hp, by simp⟩, hfin _ rfl⟩)) rfl
def rcharsL : Law := ⟨fun ts => ∃ (s : List UInt8), ts = [.str s] ∧ (s.length ≤ 1000000), fun ts z₀ => ∀ (s : List UInt8), ts = [.str s] → z₀ = ints (runesS s)⟩
theorem rchars_pre {s : List UInt8} (h : s.length ≤ 1000000) : rcharsL.pre [.str s] := ⟨s, rfl, h⟩
theorem rchars_fin {s : List UInt8} {z₀ : TV} (h : z₀ = ints (runesS s)) : rcharsL.post [.str s] z₀ := fun s₁ e => by
  simp only [List.cons.injEq, TV.str.injEq, TV.int.injEq, TV.bool.injEq, TV.agg.injEq, TV.list.injEq, ints_eq, and_true, true_and, and_assoc] at e; subst e
  exact h
theorem rchars_all {s : List UInt8} {Q : TV → Prop} : (∀ z₀, rcharsL.post [.str s] z₀ → Q z₀) ↔ Q (ints (runesS s)) := ⟨fun h => h _ (rchars_fin rfl), fun h z₀ hr => by rw [hr _ rfl]; exact h⟩
theorem rchars_c (k : Nat) : Contract Tryd.prog (mkEnv globT []) gtab (sn_ref03_Characters k) rcharsL.pre rcharsL.post := Contract.env (Γ := mkEnv globT [decodeL]) (contract_ref03_Characters (fun _ => rfl) (fun s hs => by
    simp only [cx_ref03_Characters, List.mem_cons, List.not_mem_nil, or_false] at hs
    rcases hs with rfl
    · exact Contract.inEnv rfl (refDecode_c 0) rfl) k (by
  rintro ts hl ⟨s, rfl, hp⟩
  have hfin : ∀ z₀ : TV, z₀ = ints (runesS s) → rcharsL.post [.str s] z₀ := fun z₀ h => rchars_fin h
  generalize rcharsL.post [.str s] = R at hfin ⊢
  unfold tr_ref03_Characters
  simp only [Tree.den, E.den, P1.den, P2.den, P3.den, List.map_cons, List.map_nil, List.cons_append, List.nil_append, List.getD_cons_zero, List.getD_cons_succ, List.getElem?_cons_zero, List.getElem?_cons_succ, asInt_int, asBool_bool, asStr_str, asList_list, cells_agg, TV.cell, pre_zero, pre_succ, post_zero, post_succ, decide_eq_true_eq, decide_eq_false_iff_not, beq_iff_eq, beq_eq_false_iff_ne, Bool.not_eq_true', Bool.not_eq_false', ne_eq, List.length_cons, List.length_nil, forall_eq, Bool.false_eq_true, Bool.true_eq_false, Int.reduceToNat, Option.some.injEq, exists_eq_left', decode_all, decT]
  exact ⟨decode_pre (by rw [List.length_nil]; omega), hfin _ rfl⟩)) rfl
theorem beq_dec (a b : List UInt8) : (a == b) = decide (a = b) := by by_cases h : a = b <;> simp [h]
theorem unbs_eq {l : List Int} {s : List UInt8} (h : Byte l) : unbs l = s ↔ l = bs s := ⟨fun e => by rw [← e, bs_unbs h], fun e => by rw [e, unbs_bs]⟩
theorem validD_eq {s : List UInt8} (h : (dec (bs s)).2 = []) : Lib.validD s = decide (unbs (encZ (dec (bs s)).1) = s) := by
  have hb : Byte (encZ (dec (bs s)).1) := fun b hb => encZ_byte hb
  by_cases hv : validB s
  · rw [(validD_iff s).2 hv]
    have := ((validB_iff s).1 hv).2
    exact (decide_eq_true ((unbs_eq hb).2 this)).symm
  · rw [validD_false hv]
    refine (decide_eq_false fun e => hv ((validB_iff s).2 ⟨h, (unbs_eq hb).1 e⟩)).symm
theorem validD_pend {s : List UInt8} (h : ¬ (dec (bs s)).2 = []) : Lib.validD s = false := validD_false fun hv => h ((validB_iff s).1 hv).1
def rvalidL : Law := ⟨fun ts => ∃ (s : List UInt8), ts = [.str s] ∧ (s.length ≤ 1000000), fun ts z₀ => ∀ (s : List UInt8), ts = [.str s] → z₀ = .bool (Lib.validD s)⟩
theorem rvalid_pre {s : List UInt8} (h : s.length ≤ 1000000) : rvalidL.pre [.str s] := ⟨s, rfl, h⟩
theorem rvalid_fin {s : List UInt8} {z₀ : TV} (h : z₀ = .bool (Lib.validD s)) : rvalidL.post [.str s] z₀ := fun s₁ e => by
  simp only [List.cons.injEq, TV.str.injEq, TV.int.injEq, TV.bool.injEq, TV.agg.injEq, TV.list.injEq, ints_eq, and_true, true_and, and_assoc] at e; subst e
  exact h
theorem rvalid_all {s : List UInt8} {Q : TV → Prop} : (∀ z₀, rvalidL.post [.str s] z₀ → Q z₀) ↔ Q (.bool (Lib.validD s)) := ⟨fun h => h _ (rvalid_fin rfl), fun h z₀ hr => by rw [hr _ rfl]; exact h⟩
theorem rvalid_c (k : Nat) : Contract Tryd.prog (mkEnv globT []) gtab (sn_ref01_Valid k) rvalidL.pre rvalidL.post := Contract.env (Γ := mkEnv globT [decodeL, rencL]) (contract_ref01_Valid (fun _ => rfl) (fun s hs => by
    simp only [cx_ref01_Valid, List.mem_cons, List.not_mem_nil, or_false] at hs
    rcases hs with rfl | rfl
    · exact Contract.inEnv rfl (refDecode_c 0) rfl
    · exact Contract.inEnv rfl (renc_c 1) rfl) k (by
  rintro ts hl ⟨s, rfl, hp⟩
  have hfin : ∀ z₀ : TV, z₀ = .bool (Lib.validD s) → rvalidL.post [.str s] z₀ := fun z₀ h => rvalid_fin h
  generalize rvalidL.post [.str s] = R at hfin ⊢
  unfold tr_ref01_Valid
  have hdl := runes_len s
  unfold runesS at hdl
  have hch := dec_chars s
  simp only [Tree.den, E.den, P1.den, P2.den, P3.den, List.map_cons, List.map_nil, List.cons_append, List.nil_append, List.getD_cons_zero, List.getD_cons_succ, List.getElem?_cons_zero, List.getElem?_cons_succ, asInt_int, asBool_bool, asStr_str, asList_list, cells_agg, TV.cell, pre_zero, pre_succ, post_zero, post_succ, decide_eq_true_eq, decide_eq_false_iff_not, beq_iff_eq, beq_eq_false_iff_ne, Bool.not_eq_true', Bool.not_eq_false', ne_eq, List.length_cons, List.length_nil, forall_eq, Bool.false_eq_true, Bool.true_eq_false, Int.reduceToNat, Option.some.injEq, exists_eq_left', decode_all, decT]
  simp only [Tree.den, E.den, P1.den, P2.den, P3.den, List.map_cons, List.map_nil, List.cons_append, List.nil_append, List.getD_cons_zero, List.getD_cons_succ, List.getElem?_cons_zero, List.getElem?_cons_succ, asInt_int, asBool_bool, asStr_str, asList_list, cells_agg, TV.cell, pre_zero, pre_succ, post_zero, post_succ, decide_eq_true_eq, decide_eq_false_iff_not, beq_iff_eq, beq_eq_false_iff_ne, Bool.not_eq_true', Bool.not_eq_false', ne_eq, List.length_cons, List.length_nil, forall_eq, Bool.false_eq_true, Bool.true_eq_false, Int.reduceToNat, Option.some.injEq, exists_eq_left', ints_asList, map_snoc, map_app, list_map, ints_nil, ints_get, ints_len, bs_get, Int.toNat_natCast, List.length_append, List.length_map, bs_length, renc_all, unbs_nil]
  refine ⟨decode_pre (by rw [List.length_nil]; omega), fun h => ⟨renc_pre ⟨hch.run, by omega⟩, hfin _ ?_⟩, fun h => hfin _ ?_⟩
  · rw [validD_eq h, beq_dec]
  · rw [validD_pend h])) rfl
def rcheckL : Law := ⟨fun ts => ∃ (s : List UInt8), ts = [.str s] ∧ (s.length ≤ 1000000), fun ts z₀ => ∀ (s : List UInt8), ts = [.str s] → z₀ = .int (checkZ s)⟩
theorem rcheck_pre {s : List UInt8} (h : s.length ≤ 1000000) : rcheckL.pre [.str s] := ⟨s, rfl, h⟩
theorem rcheck_fin {s : List UInt8} {z₀ : TV} (h : z₀ = .int (checkZ s)) : rcheckL.post [.str s] z₀ := fun s₁ e => by
  simp only [List.cons.injEq, TV.str.injEq, TV.int.injEq, TV.bool.injEq, TV.agg.injEq, TV.list.injEq, ints_eq, and_true, true_and, and_assoc] at e; subst e
  exact h
theorem rcheck_all {s : List UInt8} {Q : TV → Prop} : (∀ z₀, rcheckL.post [.str s] z₀ → Q z₀) ↔ Q (.int (checkZ s)) := ⟨fun h => h _ (rcheck_fin rfl), fun h z₀ hr => by rw [hr _ rfl]; exact h⟩
def KI (l : List Int) (xs : List TV) : Prop := ∃ k : Nat, xs = [.int k] ∧ 1 ≤ k ∧ k ≤ l.length ∧ (l.drop 1).all markZ = (l.drop k).all markZ
theorem checkR_base {l : List Int} (h : widthZ (headZ l) < 1) : checkR l = 9 := by unfold checkR; rw [if_pos (.inl h)]
theorem checkR_mark {l : List Int} (h : (l.drop 1).all markZ = false) : checkR l = 9 := by unfold checkR; rw [if_pos (.inr (by rw [h]; simp))]
theorem checkR_ok {l : List Int} (h : ¬ widthZ (headZ l) < 1) (k : (l.drop 1).all markZ = true) : checkR l = if 4 < l.length then 5 else 0 := by
  unfold checkR
  rw [if_neg (by rw [k]; simp; omega)]
theorem rcheck_c (k : Nat) : Contract Tryd.prog (mkEnv globT []) gtab (sn_ref03_Check k) rcheckL.pre rcheckL.post := Contract.env (Γ := mkEnv globT [rvalidL, rmarkL, rwidthL, rcharsL]) (contract_ref03_Check (fun _ => rfl) (fun s hs => by
    simp only [cx_ref03_Check, List.mem_cons, List.not_mem_nil, or_false] at hs
    rcases hs with rfl | rfl | rfl | rfl
    · exact Contract.inEnv rfl (rvalid_c 0) rfl
    · exact Contract.inEnv rfl (rmark_c 1) rfl
    · exact Contract.inEnv rfl (rwidth_c 2) rfl
    · exact Contract.inEnv rfl (rchars_c 3) rfl) k (by
  rintro ts hl ⟨s, rfl, hp⟩
  have hfin : ∀ z₀ : TV, z₀ = .int (checkZ s) → rcheckL.post [.str s] z₀ := fun z₀ h => rcheck_fin h
  generalize rcheckL.post [.str s] = R at hfin ⊢
  unfold tr_ref03_Check
  by_cases hn : s = []
  · subst hn
    simp only [Tree.den, E.den, P1.den, P2.den, P3.den, List.map_cons, List.map_nil, List.cons_append, List.nil_append, List.getD_cons_zero, List.getD_cons_succ, List.getElem?_cons_zero, List.getElem?_cons_succ, asInt_int, asBool_bool, asStr_str, asList_list, cells_agg, TV.cell, pre_zero, pre_succ, post_zero, post_succ, decide_eq_true_eq, decide_eq_false_iff_not, beq_iff_eq, beq_eq_false_iff_ne, Bool.not_eq_true', Bool.not_eq_false', ne_eq, List.length_cons, List.length_nil, forall_eq, Bool.false_eq_true, Bool.true_eq_false, Int.reduceToNat, Option.some.injEq, exists_eq_left']
    exact ⟨fun _ => hfin _ (by rw [checkZ_nil]), fun h => absurd trivial h⟩
  by_cases hv : validB s
  · have hvt := (validD_iff s).2 hv
    have hpos := runes_pos hn hv
    have hle := runes_len s
    have hcv := checkZ_val hn hv
    rw [hcv] at hfin
    simp only [Tree.den, E.den, P1.den, P2.den, P3.den, List.map_cons, List.map_nil, List.cons_append, List.nil_append, List.getD_cons_zero, List.getD_cons_succ, List.getElem?_cons_zero, List.getElem?_cons_succ, asInt_int, asBool_bool, asStr_str, asList_list, cells_agg, TV.cell, pre_zero, pre_succ, post_zero, post_succ, decide_eq_true_eq, decide_eq_false_iff_not, beq_iff_eq, beq_eq_false_iff_ne, Bool.not_eq_true', Bool.not_eq_false', ne_eq, List.length_cons, List.length_nil, forall_eq, Bool.false_eq_true, Bool.true_eq_false, Int.reduceToNat, Option.some.injEq, exists_eq_left', rvalid_all, hvt, rchars_all, hn]
    generalize runesS s = l at *
    have hh : l.getD 0 0 = headZ l := rfl
    simp only [Tree.den, E.den, P1.den, P2.den, P3.den, List.map_cons, List.map_nil, List.cons_append, List.nil_append, List.getD_cons_zero, List.getD_cons_succ, List.getElem?_cons_zero, List.getElem?_cons_succ, asInt_int, asBool_bool, asStr_str, asList_list, cells_agg, TV.cell, pre_zero, pre_succ, post_zero, post_succ, decide_eq_true_eq, decide_eq_false_iff_not, beq_iff_eq, beq_eq_false_iff_ne, Bool.not_eq_true', Bool.not_eq_false', ne_eq, List.length_cons, List.length_nil, forall_eq, Bool.false_eq_true, Bool.true_eq_false, Int.reduceToNat, Option.some.injEq, exists_eq_left', ints_asList, map_snoc, map_app, list_map, ints_nil, ints_get, ints_len, bs_get, Int.toNat_natCast, List.length_append, List.length_map, bs_length, rmark_all, rwidth_all, hh]
    refine ⟨fun h => (by simp at h), fun _ => ⟨rvalid_pre (by omega), fun h => (by simp at h), fun _ => ⟨rchars_pre (by omega), by omega, rmark_pre trivial, fun h1 => hfin _ (by rw [checkR_base (by rw [width_mark h1]; omega)]), fun h1 => ⟨by omega, rwidth_pre trivial, fun h2 => hfin _ (by rw [checkR_base h2]), fun h2 => ⟨KI l, Mm l, ⟨1, rfl, by omega, by omega, rfl⟩, ?_⟩⟩⟩⟩⟩
    rintro xs _ ⟨k, rfl, hk1, hk, he⟩
    have hD : Mm l [.int (k : Int)] = l.length - k := rfl
    have e64 : IntKind.wrap .i64 ((k : Int) + 1) = ((k + 1 : Nat) : Int) := by rw [wrap_i64 (n := (k : Int) + 1) (by omega) (by omega)]; omega
    simp only [Tree.den, E.den, P1.den, P2.den, P3.den, List.map_cons, List.map_nil, List.cons_append, List.nil_append, List.getD_cons_zero, List.getD_cons_succ, List.getElem?_cons_zero, List.getElem?_cons_succ, asInt_int, asBool_bool, asStr_str, asList_list, cells_agg, TV.cell, pre_zero, pre_succ, post_zero, post_succ, decide_eq_true_eq, decide_eq_false_iff_not, beq_iff_eq, beq_eq_false_iff_ne, Bool.not_eq_true', Bool.not_eq_false', ne_eq, List.length_cons, List.length_nil, forall_eq, Bool.false_eq_true, Bool.true_eq_false, Int.reduceToNat, Option.some.injEq, exists_eq_left', ints_asList, map_snoc, map_app, list_map, ints_nil, ints_get, ints_len, bs_get, Int.toNat_natCast, List.length_append, List.length_map, bs_length, hD, e64, rmark_all]
    refine ⟨fun hlt => ⟨by omega, by omega, rmark_pre trivial, fun h => hfin _ ?_, fun h => ⟨⟨k + 1, rfl, by omega, by omega, ?_⟩, ?_⟩⟩, fun hlt => ?_⟩
    · rw [all_drop (k := k) (by omega), h, Bool.false_and] at he
      rw [checkR_mark he]
    · rw [he, all_drop (by omega), h]; rfl
    · simp only [Mm, List.getD_cons_zero, asInt_int]; omega
    · have hdk : l.drop k = [] := List.drop_of_length_le (by omega)
      rw [hdk] at he
      have hck := checkR_ok h2 he
      rw [hck] at hfin
      exact ⟨fun h => hfin _ (by rw [if_pos (by omega)]), fun h => hfin _ (by rw [if_neg (by omega)])⟩
  · have hvf := validD_false hv
    simp only [Tree.den, E.den, P1.den, P2.den, P3.den, List.map_cons, List.map_nil, List.cons_append, List.nil_append, List.getD_cons_zero, List.getD_cons_succ, List.getElem?_cons_zero, List.getElem?_cons_succ, asInt_int, asBool_bool, asStr_str, asList_list, cells_agg, TV.cell, pre_zero, pre_succ, post_zero, post_succ, decide_eq_true_eq, decide_eq_false_iff_not, beq_iff_eq, beq_eq_false_iff_ne, Bool.not_eq_true', Bool.not_eq_false', ne_eq, List.length_cons, List.length_nil, forall_eq, Bool.false_eq_true, Bool.true_eq_false, Int.reduceToNat, Option.some.injEq, exists_eq_left', rvalid_all, hvf, hn]
    exact ⟨fun h => (by simp at h), fun _ => ⟨rvalid_pre (by omega), fun _ => hfin _ (by rw [checkZ_inv hv]), fun h => (by simp at h)⟩⟩)) rfl
def rcwL : Law := ⟨fun ts => ∃ (s : List UInt8), ts = [.str s] ∧ (s.length ≤ 1000000), fun ts z₀ => ∀ (s : List UInt8), ts = [.str s] → z₀ = .int (widthS s)⟩
theorem rcw_pre {s : List UInt8} (h : s.length ≤ 1000000) : rcwL.pre [.str s] := ⟨s, rfl, h⟩
theorem rcw_fin {s : List UInt8} {z₀ : TV} (h : z₀ = .int (widthS s)) : rcwL.post [.str s] z₀ := fun s₁ e => by
  simp only [List.cons.injEq, TV.str.injEq, TV.int.injEq, TV.bool.injEq, TV.agg.injEq, TV.list.injEq, ints_eq, and_true, true_and, and_assoc] at e; subst e
  exact h
theorem rcw_all {s : List UInt8} {Q : TV → Prop} : (∀ z₀, rcwL.post [.str s] z₀ → Q z₀) ↔ Q (.int (widthS s)) := ⟨fun h => h _ (rcw_fin rfl), fun h z₀ hr => by rw [hr _ rfl]; exact h⟩
theorem rcw_c (k : Nat) : Contract Tryd.prog (mkEnv globT []) gtab (sn_ref03_Width k) rcwL.pre rcwL.post := Contract.env (Γ := mkEnv globT [rwidthL, rcharsL, rcheckL]) (contract_ref03_Width (fun _ => rfl) (fun s hs => by
    simp only [cx_ref03_Width, List.mem_cons, List.not_mem_nil, or_false] at hs
    rcases hs with rfl | rfl | rfl
    · exact Contract.inEnv rfl (rwidth_c 0) rfl
    · exact Contract.inEnv rfl (rchars_c 1) rfl
    · exact Contract.inEnv rfl (rcheck_c 2) rfl) k (by
  rintro ts hl ⟨s, rfl, hp⟩
  have hfin : ∀ z₀ : TV, z₀ = .int (widthS s) → rcwL.post [.str s] z₀ := fun z₀ h => rcw_fin h
  generalize rcwL.post [.str s] = R at hfin ⊢
  unfold tr_ref03_Width
  have hle := runes_len s
  simp only [Tree.den, E.den, P1.den, P2.den, P3.den, List.map_cons, List.map_nil, List.cons_append, List.nil_append, List.getD_cons_zero, List.getD_cons_succ, List.getElem?_cons_zero, List.getElem?_cons_succ, asInt_int, asBool_bool, asStr_str, asList_list, cells_agg, TV.cell, pre_zero, pre_succ, post_zero, post_succ, decide_eq_true_eq, decide_eq_false_iff_not, beq_iff_eq, beq_eq_false_iff_ne, Bool.not_eq_true', Bool.not_eq_false', ne_eq, List.length_cons, List.length_nil, forall_eq, Bool.false_eq_true, Bool.true_eq_false, Int.reduceToNat, Option.some.injEq, exists_eq_left', rcheck_all, rchars_all]
  simp only [Tree.den, E.den, P1.den, P2.den, P3.den, List.map_cons, List.map_nil, List.cons_append, List.nil_append, List.getD_cons_zero, List.getD_cons_succ, List.getElem?_cons_zero, List.getElem?_cons_succ, asInt_int, asBool_bool, asStr_str, asList_list, cells_agg, TV.cell, pre_zero, pre_succ, post_zero, post_succ, decide_eq_true_eq, decide_eq_false_iff_not, beq_iff_eq, beq_eq_false_iff_ne, Bool.not_eq_true', Bool.not_eq_false', ne_eq, List.length_cons, List.length_nil, forall_eq, Bool.false_eq_true, Bool.true_eq_false, Int.reduceToNat, Option.some.injEq, exists_eq_left', ints_asList, map_snoc, map_app, list_map, ints_nil, ints_get, ints_len, bs_get, Int.toNat_natCast, List.length_append, List.length_map, bs_length, rwidth_all]
  refine ⟨rcheck_pre hp, fun h => hfin _ ?_, fun h => ⟨rchars_pre hp, ?_, rwidth_pre trivial, hfin _ ?_⟩⟩
  · unfold widthS; rw [if_neg h]
  · have := (check_iff.1 h).2.len; omega
  · unfold widthS headZ; rw [if_pos h])) rfl
def rattachL : Law := ⟨fun ts => ∃ (s : List UInt8) (m : Int), ts = [.str s, .int m] ∧ (s.length ≤ 1000000 ∧ -2147483648 ≤ m ∧ m ≤ 2147483647), fun ts z₀ => ∀ (s : List UInt8) (m : Int), ts = [.str s, .int m] → z₀ = attachT s m⟩
theorem rattach_pre {s : List UInt8} {m : Int} (h : s.length ≤ 1000000 ∧ -2147483648 ≤ m ∧ m ≤ 2147483647) : rattachL.pre [.str s, .int m] := ⟨s, m, rfl, h⟩
theorem rattach_fin {s : List UInt8} {m : Int} {z₀ : TV} (h : z₀ = attachT s m) : rattachL.post [.str s, .int m] z₀ := fun s₁ m₁ e => by
  simp only [List.cons.injEq, TV.str.injEq, TV.int.injEq, TV.bool.injEq, TV.agg.injEq, TV.list.injEq, ints_eq, and_true, true_and, and_assoc] at e; obtain ⟨rfl, rfl⟩ := e
  exact h
theorem rattach_all {s : List UInt8} {m : Int} {Q : TV → Prop} : (∀ z₀, rattachL.post [.str s, .int m] z₀ → Q z₀) ↔ Q (attachT s m) := ⟨fun h => h _ (rattach_fin rfl), fun h z₀ hr => by rw [hr _ _ rfl]; exact h⟩
theorem rattach_c (k : Nat) : Contract Tryd.prog (mkEnv globT []) gtab (sn_ref03_Attach k) rattachL.pre rattachL.post := Contract.env (Γ := mkEnv globT [rmarkL, rencodeL, rcharsL, rcheckL]) (contract_ref03_Attach (fun _ => rfl) (fun s hs => by
    simp only [cx_ref03_Attach, List.mem_cons, List.not_mem_nil, or_false] at hs
    rcases hs with rfl | rfl | rfl | rfl
    · exact Contract.inEnv rfl (rmark_c 0) rfl
    · exact Contract.inEnv rfl (rencode_c 1) rfl
    · exact Contract.inEnv rfl (rchars_c 2) rfl
    · exact Contract.inEnv rfl (rcheck_c 3) rfl) k (by
  rintro ts hl ⟨s, m, rfl, hp⟩
  have hfin : ∀ z₀ : TV, z₀ = attachT s m → rattachL.post [.str s, .int m] z₀ := fun z₀ h => rattach_fin h
  generalize rattachL.post [.str s, .int m] = R at hfin ⊢
  unfold tr_ref03_Attach
  obtain ⟨hs, hm⟩ := hp
  have hel := (encS_len [m]).2
  simp only [Tree.den, E.den, P1.den, P2.den, P3.den, List.map_cons, List.map_nil, List.cons_append, List.nil_append, List.getD_cons_zero, List.getD_cons_succ, List.getElem?_cons_zero, List.getElem?_cons_succ, asInt_int, asBool_bool, asStr_str, asList_list, cells_agg, TV.cell, pre_zero, pre_succ, post_zero, post_succ, decide_eq_true_eq, decide_eq_false_iff_not, beq_iff_eq, beq_eq_false_iff_ne, Bool.not_eq_true', Bool.not_eq_false', ne_eq, List.length_cons, List.length_nil, forall_eq, Bool.false_eq_true, Bool.true_eq_false, Int.reduceToNat, Option.some.injEq, exists_eq_left', rcheck_all, rmark_all, rchars_all, rencode_all]
  simp only [Tree.den, E.den, P1.den, P2.den, P3.den, List.map_cons, List.map_nil, List.cons_append, List.nil_append, List.getD_cons_zero, List.getD_cons_succ, List.getElem?_cons_zero, List.getElem?_cons_succ, asInt_int, asBool_bool, asStr_str, asList_list, cells_agg, TV.cell, pre_zero, pre_succ, post_zero, post_succ, decide_eq_true_eq, decide_eq_false_iff_not, beq_iff_eq, beq_eq_false_iff_ne, Bool.not_eq_true', Bool.not_eq_false', ne_eq, List.length_cons, List.length_nil, forall_eq, Bool.false_eq_true, Bool.true_eq_false, Int.reduceToNat, Option.some.injEq, exists_eq_left', ints_asList, map_snoc, map_app, list_map, ints_nil, ints_get, ints_len, bs_get, Int.toNat_natCast, List.length_append, List.length_map, bs_length]
  unfold attachT at hfin
  refine ⟨rcheck_pre hs, fun h => hfin _ ?_, fun h => ?_⟩
  · rw [if_neg h]
  have hcl := (check_iff.1 h).2.len
  have hml : (marksS s).length + 1 = (runesS s).length := by unfold marksS; rw [if_pos h, List.length_drop]; omega
  refine ⟨rmark_pre trivial, fun h1 => hfin _ ?_, fun h1 => ⟨rchars_pre hs, fun h2 => hfin _ ?_, fun h2 => ⟨rencode_pre hm, ?_, hfin _ ?_⟩⟩⟩
  · rw [if_pos h, if_neg (by rw [h1]; simp)]
  · rw [if_pos h, if_pos h1, if_pos (by omega)]
  · simp only [List.length_singleton] at hel; omega
  · rw [if_pos h, if_pos h1, if_neg (by omega)])) rfl

def rsplitL : Law := ⟨fun ts => ∃ (l : List Int), ts = [ints l] ∧ (Run l ∧ l.length ≤ 1000000), fun ts z₀ => ∀ (l : List Int), ts = [ints l] → z₀ = strs ((splitZ l).map encS)⟩
theorem rsplit_pre {l : List Int} (h : Run l ∧ l.length ≤ 1000000) : rsplitL.pre [ints l] := ⟨l, rfl, h⟩
theorem rsplit_fin {l : List Int} {z₀ : TV} (h : z₀ = strs ((splitZ l).map encS)) : rsplitL.post [ints l] z₀ := fun l₁ e => by
  simp only [List.cons.injEq, TV.str.injEq, TV.int.injEq, TV.bool.injEq, TV.agg.injEq, TV.list.injEq, ints_eq, and_true, true_and, and_assoc] at e; subst e
  exact h
theorem rsplit_all {l : List Int} {Q : TV → Prop} : (∀ z₀, rsplitL.post [ints l] z₀ → Q z₀) ↔ Q (strs ((splitZ l).map encS)) := ⟨fun h => h _ (rsplit_fin rfl), fun h z₀ hr => by rw [hr _ rfl]; exact h⟩
def RSI (l : List Int) (xs : List TV) : Prop := ∃ k m : Nat, xs = [.int m, .int k, strs ((splitZ (l.take k)).map encS)] ∧ k ≤ l.length ∧ ∀ p c, splitZ (l.take k) = p ++ [c] → m + 1 = c.length
def RSm (l : List Int) (xs : List TV) : Nat := l.length - (xs.getD 1 (.int 0)).asInt.toNat
theorem rsplit_c (k : Nat) : Contract Tryd.prog (mkEnv globT []) gtab (sn_ref03_Split k) rsplitL.pre rsplitL.post := Contract.env (Γ := mkEnv globT [rmarkL, rwidthL, rencodeL]) (contract_ref03_Split (fun _ => rfl) (fun s hs => by
    simp only [cx_ref03_Split, List.mem_cons, List.not_mem_nil, or_false] at hs
    rcases hs with rfl | rfl | rfl
    · exact Contract.inEnv rfl (rmark_c 0) rfl
    · exact Contract.inEnv rfl (rwidth_c 1) rfl
    · exact Contract.inEnv rfl (rencode_c 2) rfl) k (by
  rintro ts hl ⟨l, rfl, hp⟩
  have hfin : ∀ z₀ : TV, z₀ = strs ((splitZ l).map encS) → rsplitL.post [ints l] z₀ := fun z₀ h => rsplit_fin h
  generalize rsplitL.post [ints l] = R at hfin ⊢
  unfold tr_ref03_Split
  obtain ⟨hr, hsz⟩ := hp
  simp only [Tree.den, E.den, P1.den, P2.den, P3.den, List.map_cons, List.map_nil, List.cons_append, List.nil_append, List.getD_cons_zero, List.getD_cons_succ, List.getElem?_cons_zero, List.getElem?_cons_succ, asInt_int, asBool_bool, asStr_str, asList_list, cells_agg, TV.cell, pre_zero, pre_succ, post_zero, post_succ, decide_eq_true_eq, decide_eq_false_iff_not, beq_iff_eq, beq_eq_false_iff_ne, Bool.not_eq_true', Bool.not_eq_false', ne_eq, List.length_cons, List.length_nil, forall_eq, Bool.false_eq_true, Bool.true_eq_false, Int.reduceToNat, Option.some.injEq, exists_eq_left']
  simp only [Tree.den, E.den, P1.den, P2.den, P3.den, List.map_cons, List.map_nil, List.cons_append, List.nil_append, List.getD_cons_zero, List.getD_cons_succ, List.getElem?_cons_zero, List.getElem?_cons_succ, asInt_int, asBool_bool, asStr_str, asList_list, cells_agg, TV.cell, pre_zero, pre_succ, post_zero, post_succ, decide_eq_true_eq, decide_eq_false_iff_not, beq_iff_eq, beq_eq_false_iff_ne, Bool.not_eq_true', Bool.not_eq_false', ne_eq, List.length_cons, List.length_nil, forall_eq, Bool.false_eq_true, Bool.true_eq_false, Int.reduceToNat, Option.some.injEq, exists_eq_left', ints_asList, map_snoc, map_app, list_map, ints_nil, ints_get, ints_len, bs_get, Int.toNat_natCast, List.length_append, List.length_map, bs_length]
  refine ⟨RSI l, RSm l, ⟨0, 0, rfl, by omega, fun p c h => by simp [splitZ, splitF] at h⟩, ?_⟩
  rintro xs _ ⟨k, m, rfl, hk, hm⟩
  have hD : ∀ a b, RSm l [a, .int (k : Int), b] = l.length - k := fun a b => rfl
  have e64 : IntKind.wrap .i64 ((k : Int) + 1) = ((k + 1 : Nat) : Int) := by rw [wrap_i64 (n := (k : Int) + 1) (by omega) (by omega)]; omega
  by_cases hkl : k < l.length
  · have hn := hr _ (getD_mem hkl)
    have hs : splitZ (l.take (k + 1)) = stepS (splitZ (l.take k)) (l.getD k 0) := by rw [take_snoc hkl, splitZ_snoc]
    have hinv := split_inv (l.take k)
    have hlen := split_len (l.take k)
    rw [List.length_take] at hlen
    generalize splitZ (l.take k) = cs at *
    generalize hrr : l.getD k 0 = r at *
    have er1 := (encS_len [r]).2
    simp only [List.length_singleton] at er1
    have go : ∀ (m' : Nat) (X : List (List UInt8)), X = (stepS cs r).map encS → (∀ p c, stepS cs r = p ++ [c] → m' + 1 = c.length) → RSI l [.int (m' : Int), .int ((k + 1 : Nat) : Int), strs X] ∧ RSm l [.int (m' : Int), .int ((k + 1 : Nat) : Int), strs X] < l.length - k := fun m' X hX hm' => by
      refine ⟨⟨k + 1, m', by rw [hX, hs], by omega, fun p c h => hm' p c (by rw [← hs, h])⟩, ?_⟩
      simp only [RSm, List.getD_cons_zero, List.getD_cons_succ, asInt_int]; omega
    rcases width_cases r with ⟨hw, hmk⟩ | ⟨hw, hmk⟩ | ⟨hw, hw2, hmk⟩
    · have hst := step_ctrl (o := cs) (r := r) (by omega)
      rw [hst] at go
      simp only [Tree.den, E.den, P1.den, P2.den, P3.den, List.map_cons, List.map_nil, List.cons_append, List.nil_append, List.getD_cons_zero, List.getD_cons_succ, List.getElem?_cons_zero, List.getElem?_cons_succ, asInt_int, asBool_bool, asStr_str, asList_list, cells_agg, TV.cell, pre_zero, pre_succ, post_zero, post_succ, decide_eq_true_eq, decide_eq_false_iff_not, beq_iff_eq, beq_eq_false_iff_ne, Bool.not_eq_true', Bool.not_eq_false', ne_eq, List.length_cons, List.length_nil, forall_eq, Bool.false_eq_true, Bool.true_eq_false, Int.reduceToNat, Option.some.injEq, exists_eq_left', ints_asList, map_snoc, map_app, list_map, ints_nil, ints_get, ints_len, bs_get, Int.toNat_natCast, List.length_append, List.length_map, bs_length, hD, e64, hrr, rmark_all, rwidth_all, hw, hmk]
      exact ⟨fun _ => ⟨by omega, by omega, rmark_pre trivial, fun h => (by simp at h), fun _ => ⟨by omega, by omega, rwidth_pre trivial, fun _ => go m _ rfl hm, fun h => absurd (by decide) h⟩⟩, fun h => by omega⟩
    · rcases last_cases cs with hcs | ⟨p, c, hcs⟩
      · subst hcs
        have hst := step_nil hmk
        rw [hst] at go
        have e0 : IntKind.wrap .i64 (((0 + 1 : Nat) : Int) - 1) = 0 := by decide
        simp only [Tree.den, E.den, P1.den, P2.den, P3.den, List.map_cons, List.map_nil, List.cons_append, List.nil_append, List.getD_cons_zero, List.getD_cons_succ, List.getElem?_cons_zero, List.getElem?_cons_succ, asInt_int, asBool_bool, asStr_str, asList_list, cells_agg, TV.cell, pre_zero, pre_succ, post_zero, post_succ, decide_eq_true_eq, decide_eq_false_iff_not, beq_iff_eq, beq_eq_false_iff_ne, Bool.not_eq_true', Bool.not_eq_false', ne_eq, List.length_cons, List.length_nil, forall_eq, Bool.false_eq_true, Bool.true_eq_false, Int.reduceToNat, Option.some.injEq, exists_eq_left', ints_asList, map_snoc, map_app, list_map, ints_nil, ints_get, ints_len, bs_get, Int.toNat_natCast, List.length_append, List.length_map, bs_length, hD, e64, hrr, rmark_all, rwidth_all, hw, hmk, rencode_all, strs_asList, List.map_nil, e0, List.set_cons_zero]
        refine ⟨fun _ => ⟨by omega, by omega, rmark_pre trivial, fun _ => ⟨fun _ => ⟨by omega, by omega, by omega, ?_⟩, fun h => (by simp at h)⟩, fun h => (by simp at h)⟩, fun h => by omega⟩
        have hg := go 1 [encS [32] ++ encS [r]] (by rw [← encS_append]; rfl) (fun p c h => by
          obtain ⟨_, rfl⟩ := app_last (p := []) h
          rfl)
        have e32 : encS [32] = [32] := by decide
        rw [e32] at hg
        repeat' (first
          | exact hg.1
          | exact hg.2
          | exact rencode_pre hn
          | (refine ⟨?_, ?_⟩)
          | omega)
      · subst hcs
        have hc := (hinv c (by simp)).len
        have hmc := hm p c rfl
        have ec := (encS_len c).2
        rw [List.length_append, List.length_singleton] at hlen
        have hPl : (p.map encS).length = p.length := List.length_map _
        rw [List.map_append, List.map_cons, List.map_nil]
        generalize hP : p.map encS = P at *
        generalize hsc : encS c = s at *
        have e1 : IntKind.wrap .i64 (((P.length + (0 + 1) : Nat) : Int) - 1) = (P.length : Int) := by rw [wrap_i64 (by omega) (by omega)]; omega
        have em : IntKind.wrap .i64 ((m : Int) + 1) = ((m + 1 : Nat) : Int) := by rw [wrap_i64 (by omega) (by omega)]; omega
        simp only [Tree.den, E.den, P1.den, P2.den, P3.den, List.map_cons, List.map_nil, List.cons_append, List.nil_append, List.getD_cons_zero, List.getD_cons_succ, List.getElem?_cons_zero, List.getElem?_cons_succ, asInt_int, asBool_bool, asStr_str, asList_list, cells_agg, TV.cell, pre_zero, pre_succ, post_zero, post_succ, decide_eq_true_eq, decide_eq_false_iff_not, beq_iff_eq, beq_eq_false_iff_ne, Bool.not_eq_true', Bool.not_eq_false', ne_eq, List.length_cons, List.length_nil, forall_eq, Bool.false_eq_true, Bool.true_eq_false, Int.reduceToNat, Option.some.injEq, exists_eq_left', ints_asList, map_snoc, map_app, list_map, ints_nil, ints_get, ints_len, bs_get, Int.toNat_natCast, List.length_append, List.length_map, bs_length, hD, e64, hrr, rmark_all, rwidth_all, hw, hmk, rencode_all, strs_asList, e1, em, strs_get, strs_set]
        refine ⟨fun _ => ⟨by omega, by omega, rmark_pre trivial, fun _ => ⟨fun h => by omega, fun _ => ⟨fun h3 => ?_, fun h3 => ?_⟩⟩, fun h => (by simp at h)⟩, fun h => by omega⟩
        · have hst := step_mark (o := p) (c := c) hmk (by omega)
          rw [hst] at go
          have hg := go (m + 1) (P ++ [s ++ encS [r]]) (by rw [List.map_append, hP, List.map_cons, List.map_nil, encS_append, hsc]) (fun q d h => by
            obtain ⟨_, rfl⟩ := app_last h
            rw [List.length_append, List.length_singleton]
            omega)
          repeat' (first
            | exact hg.1
            | exact hg.2
            | exact rencode_pre hn
            | (refine ⟨?_, ?_⟩)
            | omega)
        · have hst := step_full (o := p) (c := c) hmk (by omega)
          rw [hst] at go
          refine go m (P ++ [s]) ?_ hm
          rw [List.map_append, hP, List.map_cons, List.map_nil, hsc]
    · have hst := step_base (o := cs) (r := r) (by omega)
      rw [hst] at go
      simp only [Tree.den, E.den, P1.den, P2.den, P3.den, List.map_cons, List.map_nil, List.cons_append, List.nil_append, List.getD_cons_zero, List.getD_cons_succ, List.getElem?_cons_zero, List.getElem?_cons_succ, asInt_int, asBool_bool, asStr_str, asList_list, cells_agg, TV.cell, pre_zero, pre_succ, post_zero, post_succ, decide_eq_true_eq, decide_eq_false_iff_not, beq_iff_eq, beq_eq_false_iff_ne, Bool.not_eq_true', Bool.not_eq_false', ne_eq, List.length_cons, List.length_nil, forall_eq, Bool.false_eq_true, Bool.true_eq_false, Int.reduceToNat, Option.some.injEq, exists_eq_left', ints_asList, map_snoc, map_app, list_map, ints_nil, ints_get, ints_len, bs_get, Int.toNat_natCast, List.length_append, List.length_map, bs_length, hD, e64, hrr, rmark_all, rwidth_all, hmk, rencode_all, strs_asList, strs_snoc]
      have hgo : RSI l [.int 0, .int ((k + 1 : Nat) : Int), strs (cs.map encS ++ [encS [r]])] ∧ RSm l [.int 0, .int ((k + 1 : Nat) : Int), strs (cs.map encS ++ [encS [r]])] < l.length - k := by
        refine go 0 _ ?_ ?_
        · rw [List.map_append, List.map_cons, List.map_nil]
        · intro q d h
          obtain ⟨_, rfl⟩ := app_last h
          rfl
      refine ⟨fun _ => ⟨by omega, by omega, rmark_pre trivial, fun h => (by simp at h), fun _ => ⟨by omega, by omega, rwidth_pre trivial, fun h => by omega, fun _ => ⟨by omega, by omega, rencode_pre hn, by omega, hgo⟩⟩⟩, fun h => by omega⟩
  · have hkk : k = l.length := by omega
    subst hkk
    rw [List.take_of_length_le (Nat.le_refl _)] at *
    simp only [Tree.den, E.den, P1.den, P2.den, P3.den, List.map_cons, List.map_nil, List.cons_append, List.nil_append, List.getD_cons_zero, List.getD_cons_succ, List.getElem?_cons_zero, List.getElem?_cons_succ, asInt_int, asBool_bool, asStr_str, asList_list, cells_agg, TV.cell, pre_zero, pre_succ, post_zero, post_succ, decide_eq_true_eq, decide_eq_false_iff_not, beq_iff_eq, beq_eq_false_iff_ne, Bool.not_eq_true', Bool.not_eq_false', ne_eq, List.length_cons, List.length_nil, forall_eq, Bool.false_eq_true, Bool.true_eq_false, Int.reduceToNat, Option.some.injEq, exists_eq_left', ints_asList, map_snoc, map_app, list_map, ints_nil, ints_get, ints_len, bs_get, Int.toNat_natCast, List.length_append, List.length_map, bs_length, hD]
    exact ⟨fun h => by omega, fun _ => hfin _ rfl⟩)) rfl

def samesL : Law := ⟨fun ts => ∃ (a : List (List UInt8)) (b : List (List UInt8)), ts = [strs a, strs b] ∧ (a.length ≤ 1000000), fun ts z₀ => ∀ (a : List (List UInt8)) (b : List (List UInt8)), ts = [strs a, strs b] → z₀ = .bool (decide (a = b))⟩
theorem sames_pre {a : List (List UInt8)} {b : List (List UInt8)} (h : a.length ≤ 1000000) : samesL.pre [strs a, strs b] := ⟨a, b, rfl, h⟩
theorem sames_fin {a : List (List UInt8)} {b : List (List UInt8)} {z₀ : TV} (h : z₀ = .bool (decide (a = b))) : samesL.post [strs a, strs b] z₀ := fun a₁ b₁ e => by
  simp only [List.cons.injEq, TV.str.injEq, TV.int.injEq, TV.bool.injEq, TV.agg.injEq, TV.list.injEq, ints_eq, and_true, true_and, and_assoc, strs_eq] at e; obtain ⟨rfl, rfl⟩ := e
  exact h
theorem sames_all {a : List (List UInt8)} {b : List (List UInt8)} {Q : TV → Prop} : (∀ z₀, samesL.post [strs a, strs b] z₀ → Q z₀) ↔ Q (.bool (decide (a = b))) := ⟨fun h => h _ (sames_fin rfl), fun h z₀ hr => by rw [hr _ _ rfl]; exact h⟩
def QS (a b : List (List UInt8)) (xs : List TV) : Prop := ∃ k : Nat, xs = [.int k] ∧ k ≤ a.length ∧ a.take k = b.take k
def QSm (a : List (List UInt8)) (xs : List TV) : Nat := a.length - (xs.getD 0 (.int 0)).asInt.toNat
theorem takes_snoc {α : Type} {l : List α} {k : Nat} {d : α} (h : k < l.length) : l.take (k + 1) = l.take k ++ [l.getD k d] := by
  rw [List.take_succ_eq_append_getElem h, List.getD_eq_getElem?_getD, List.getElem?_eq_getElem h]
  rfl
theorem sames_c (k : Nat) : Contract Tryd.prog (mkEnv globT []) gtab (sn_ref03_Same k) samesL.pre samesL.post := Contract.env (Γ := mkEnv globT []) (contract_ref03_Same (fun _ => rfl) (fun s hs => by
    cases hs) k (by
  rintro ts hl ⟨a, b, rfl, hp⟩
  have hfin : ∀ z₀ : TV, z₀ = .bool (decide (a = b)) → samesL.post [strs a, strs b] z₀ := fun z₀ h => sames_fin h
  generalize samesL.post [strs a, strs b] = R at hfin ⊢
  unfold tr_ref03_Same
  simp only [Tree.den, E.den, P1.den, P2.den, P3.den, List.map_cons, List.map_nil, List.cons_append, List.nil_append, List.getD_cons_zero, List.getD_cons_succ, List.getElem?_cons_zero, List.getElem?_cons_succ, asInt_int, asBool_bool, asStr_str, asList_list, cells_agg, TV.cell, pre_zero, pre_succ, post_zero, post_succ, decide_eq_true_eq, decide_eq_false_iff_not, beq_iff_eq, beq_eq_false_iff_ne, Bool.not_eq_true', Bool.not_eq_false', ne_eq, List.length_cons, List.length_nil, forall_eq, Bool.false_eq_true, Bool.true_eq_false, Int.reduceToNat, Option.some.injEq, exists_eq_left', strs_len]
  refine ⟨fun h => hfin _ ?_, fun h => ⟨QS a b, QSm a, ⟨0, rfl, by omega, rfl⟩, ?_⟩⟩
  · rw [decide_eq_false fun e => h (by rw [e])]
  rintro xs _ ⟨k, rfl, hk, he⟩
  have hD : QSm a [.int (k : Int)] = a.length - k := rfl
  have e64 : IntKind.wrap .i64 ((k : Int) + 1) = ((k + 1 : Nat) : Int) := by rw [wrap_i64 (n := (k : Int) + 1) (by omega) (by omega)]; omega
  by_cases hka : k < a.length
  · have ga := strs_getD a hka
    have gb := strs_getD b (i := k) (by omega)
    simp only [Tree.den, E.den, P1.den, P2.den, P3.den, List.map_cons, List.map_nil, List.cons_append, List.nil_append, List.getD_cons_zero, List.getD_cons_succ, List.getElem?_cons_zero, List.getElem?_cons_succ, asInt_int, asBool_bool, asStr_str, asList_list, cells_agg, TV.cell, pre_zero, pre_succ, post_zero, post_succ, decide_eq_true_eq, decide_eq_false_iff_not, beq_iff_eq, beq_eq_false_iff_ne, Bool.not_eq_true', Bool.not_eq_false', ne_eq, List.length_cons, List.length_nil, forall_eq, Bool.false_eq_true, Bool.true_eq_false, Int.reduceToNat, Option.some.injEq, exists_eq_left', ints_asList, map_snoc, map_app, list_map, ints_nil, ints_get, ints_len, bs_get, Int.toNat_natCast, List.length_append, List.length_map, bs_length, hD, e64, strs_asList, ga, gb]
    refine ⟨fun _ => ⟨by omega, by omega, by omega, by omega, fun hne => hfin _ ?_, fun heq => ⟨⟨k + 1, rfl, by omega, ?_⟩, ?_⟩⟩, fun h => by omega⟩
    · rw [decide_eq_false fun e => hne (by rw [e])]
    · rw [takes_snoc (d := []) hka, takes_snoc (d := []) (by omega), he, heq]
    · simp only [QSm, List.getD_cons_zero, asInt_int]; omega
  · simp only [Tree.den, E.den, P1.den, P2.den, P3.den, List.map_cons, List.map_nil, List.cons_append, List.nil_append, List.getD_cons_zero, List.getD_cons_succ, List.getElem?_cons_zero, List.getElem?_cons_succ, asInt_int, asBool_bool, asStr_str, asList_list, cells_agg, TV.cell, pre_zero, pre_succ, post_zero, post_succ, decide_eq_true_eq, decide_eq_false_iff_not, beq_iff_eq, beq_eq_false_iff_ne, Bool.not_eq_true', Bool.not_eq_false', ne_eq, List.length_cons, List.length_nil, forall_eq, Bool.false_eq_true, Bool.true_eq_false, Int.reduceToNat, Option.some.injEq, exists_eq_left', ints_asList, map_snoc, map_app, list_map, ints_nil, ints_get, ints_len, bs_get, Int.toNat_natCast, List.length_append, List.length_map, bs_length, hD, e64, strs_asList]
    refine ⟨fun h => by omega, fun _ => hfin _ ?_⟩
    rw [List.take_of_length_le (by omega), List.take_of_length_le (by omega)] at he
    rw [decide_eq_true he])) rfl
def trueL (pre : List TV → Prop) : Law := ⟨pre, fun _ r => r = .bool true⟩
def awakeL : Law := ⟨fun ts => ts = [], fun ts z₀ => ts = [] → z₀ = .bool true⟩
theorem awake_pre : awakeL.pre [] := rfl
theorem awake_fin {z₀ : TV} (h : z₀ = .bool true) : awakeL.post [] z₀ := fun _ => h
theorem awake_all {Q : TV → Prop} : (∀ z₀, awakeL.post [] z₀ → Q z₀) ↔ Q (.bool true) := ⟨fun h => h _ fun _ => rfl, fun h z₀ hr => by rw [hr rfl]; exact h⟩
theorem awake_c (k : Nat) : Contract Tryd.prog (mkEnv globT []) gtab (sn_law03_awake k) awakeL.pre awakeL.post := Contract.env (Γ := mkEnv globT [cwidthL, splitL, samesL]) (contract_law03_awake (fun _ => rfl) (fun s hs => by
    simp only [cx_law03_awake, List.mem_cons, List.not_mem_nil, or_false] at hs
    rcases hs with rfl | rfl | rfl
    · exact Contract.inEnv rfl (cwidth_c 0) rfl
    · exact Contract.inEnv rfl (split_c 1) rfl
    · exact Contract.inEnv rfl (sames_c 2) rfl) k (by
  rintro ts hl rfl
  have hfin : ∀ z₀ : TV, z₀ = .bool true → awakeL.post [] z₀ := fun z₀ h => awake_fin h
  generalize awakeL.post [] = R at hfin ⊢
  unfold tr_law03_awake
  have l1 : TV.list [.int 101, .int 769, .int 7, .int 120, .int 28450] = ints [101, 769, 7, 120, 28450] := rfl
  have l2 : TV.list [.str [101, 204, 129], .str [120], .str [230, 188, 162]] = strs [[101, 204, 129], [120], [230, 188, 162]] := rfl
  have l3 : TV.list [.int 769] = ints [769] := rfl
  have l4 : TV.list [.str [32, 204, 129]] = strs [[32, 204, 129]] := rfl
  have s1 : (splitZ [101, 769, 7, 120, 28450]).map encS = [[101, 204, 129], [120], [230, 188, 162]] := by decide +kernel
  have s2 : (splitZ [769]).map encS = [[32, 204, 129]] := by decide +kernel
  have w1 : widthS [230, 188, 162] = 2 := by decide +kernel
  have r1 : Run [101, 769, 7, 120, 28450] := fun n hn => by simp at hn; omega
  have r2 : Run [769] := fun n hn => by simp at hn; omega
  have g2 : ∀ a b c : List UInt8, (strs [a, b, c]).asList.getD 2 (.int 0) = .str c := fun a b c => rfl
  simp only [Tree.den, E.den, P1.den, P2.den, P3.den, List.map_cons, List.map_nil, List.cons_append, List.nil_append, List.getD_cons_zero, List.getD_cons_succ, List.getElem?_cons_zero, List.getElem?_cons_succ, asInt_int, asBool_bool, asStr_str, asList_list, cells_agg, TV.cell, pre_zero, pre_succ, post_zero, post_succ, decide_eq_true_eq, decide_eq_false_iff_not, beq_iff_eq, beq_eq_false_iff_ne, Bool.not_eq_true', Bool.not_eq_false', ne_eq, List.length_cons, List.length_nil, forall_eq, Bool.false_eq_true, Bool.true_eq_false, Int.reduceToNat, Option.some.injEq, exists_eq_left', l1, l2, l3, l4, split_all, s1, s2, sames_all, strs_len, g2, cwidth_all, w1]
  exact ⟨split_pre ⟨r1, by decide⟩, sames_pre (by decide), fun _ => ⟨by decide, cwidth_pre (by decide), fun _ => ⟨split_pre ⟨r2, by decide⟩, sames_pre (by decide), hfin _ rfl⟩, fun h => absurd trivial h⟩, fun h => (by simp at h)⟩)) rfl
def joinL : Law := ⟨fun ts => ∃ (l : List (List UInt8)), ts = [strs l] ∧ (l.length ≤ 1000 ∧ ∀ s ∈ l, s.length ≤ 1000), fun ts z₀ => ∀ (l : List (List UInt8)), ts = [strs l] → z₀ = .str l.flatten⟩
theorem join_pre {l : List (List UInt8)} (h : l.length ≤ 1000 ∧ ∀ s ∈ l, s.length ≤ 1000) : joinL.pre [strs l] := ⟨l, rfl, h⟩
theorem join_fin {l : List (List UInt8)} {z₀ : TV} (h : z₀ = .str l.flatten) : joinL.post [strs l] z₀ := fun l₁ e => by
  simp only [List.cons.injEq, TV.str.injEq, TV.int.injEq, TV.bool.injEq, TV.agg.injEq, TV.list.injEq, ints_eq, and_true, true_and, and_assoc, strs_eq] at e; subst e
  exact h
theorem join_all {l : List (List UInt8)} {Q : TV → Prop} : (∀ z₀, joinL.post [strs l] z₀ → Q z₀) ↔ Q (.str l.flatten) := ⟨fun h => h _ (join_fin rfl), fun h z₀ hr => by rw [hr _ rfl]; exact h⟩
def JI (l : List (List UInt8)) (xs : List TV) : Prop := ∃ k : Nat, xs = [.str (l.take k).flatten, .int k] ∧ k ≤ l.length ∧ (l.take k).flatten.length ≤ 1000 * k
def Jm (l : List (List UInt8)) (xs : List TV) : Nat := l.length - (xs.getD 1 (.int 0)).asInt.toNat
theorem join_c (k : Nat) : Contract Tryd.prog (mkEnv globT []) gtab (sn_law03_join k) joinL.pre joinL.post := Contract.env (Γ := mkEnv globT []) (contract_law03_join (fun _ => rfl) (fun s hs => by
    cases hs) k (by
  rintro ts hl ⟨l, rfl, hp⟩
  have hfin : ∀ z₀ : TV, z₀ = .str l.flatten → joinL.post [strs l] z₀ := fun z₀ h => join_fin h
  generalize joinL.post [strs l] = R at hfin ⊢
  unfold tr_law03_join
  obtain ⟨hl1, hl2⟩ := hp
  simp only [Tree.den, E.den, P1.den, P2.den, P3.den, List.map_cons, List.map_nil, List.cons_append, List.nil_append, List.getD_cons_zero, List.getD_cons_succ, List.getElem?_cons_zero, List.getElem?_cons_succ, asInt_int, asBool_bool, asStr_str, asList_list, cells_agg, TV.cell, pre_zero, pre_succ, post_zero, post_succ, decide_eq_true_eq, decide_eq_false_iff_not, beq_iff_eq, beq_eq_false_iff_ne, Bool.not_eq_true', Bool.not_eq_false', ne_eq, List.length_cons, List.length_nil, forall_eq, Bool.false_eq_true, Bool.true_eq_false, Int.reduceToNat, Option.some.injEq, exists_eq_left', strs_len]
  refine ⟨JI l, Jm l, ⟨0, rfl, by omega, by simp⟩, ?_⟩
  rintro xs _ ⟨k, rfl, hk, hbd⟩
  have hD : ∀ a, Jm l [a, .int (k : Int)] = l.length - k := fun a => rfl
  have e64 : IntKind.wrap .i64 ((k : Int) + 1) = ((k + 1 : Nat) : Int) := by rw [wrap_i64 (n := (k : Int) + 1) (by omega) (by omega)]; omega
  by_cases hkl : k < l.length
  · have g := strs_getD l hkl
    have hm : (l.getD k []).length ≤ 1000 := hl2 _ (by rw [List.getD_eq_getElem?_getD, List.getElem?_eq_getElem hkl]; exact List.getElem_mem hkl)
    have hs := takes_snoc (d := []) hkl
    have hfl : (l.take (k + 1)).flatten = (l.take k).flatten ++ l.getD k [] := by rw [hs, List.flatten_append]; simp
    simp only [Tree.den, E.den, P1.den, P2.den, P3.den, List.map_cons, List.map_nil, List.cons_append, List.nil_append, List.getD_cons_zero, List.getD_cons_succ, List.getElem?_cons_zero, List.getElem?_cons_succ, asInt_int, asBool_bool, asStr_str, asList_list, cells_agg, TV.cell, pre_zero, pre_succ, post_zero, post_succ, decide_eq_true_eq, decide_eq_false_iff_not, beq_iff_eq, beq_eq_false_iff_ne, Bool.not_eq_true', Bool.not_eq_false', ne_eq, List.length_cons, List.length_nil, forall_eq, Bool.false_eq_true, Bool.true_eq_false, Int.reduceToNat, Option.some.injEq, exists_eq_left', ints_asList, map_snoc, map_app, list_map, ints_nil, ints_get, ints_len, bs_get, Int.toNat_natCast, List.length_append, List.length_map, bs_length, hD, e64, strs_asList, g]
    refine ⟨fun _ => ⟨by omega, by omega, by omega, ⟨k + 1, by rw [hfl], by omega, ?_⟩, ?_⟩, fun h => by omega⟩
    · rw [hfl, List.length_append]; omega
    · simp only [Jm, List.getD_cons_zero, List.getD_cons_succ, asInt_int]; omega
  · simp only [Tree.den, E.den, P1.den, P2.den, P3.den, List.map_cons, List.map_nil, List.cons_append, List.nil_append, List.getD_cons_zero, List.getD_cons_succ, List.getElem?_cons_zero, List.getElem?_cons_succ, asInt_int, asBool_bool, asStr_str, asList_list, cells_agg, TV.cell, pre_zero, pre_succ, post_zero, post_succ, decide_eq_true_eq, decide_eq_false_iff_not, beq_iff_eq, beq_eq_false_iff_ne, Bool.not_eq_true', Bool.not_eq_false', ne_eq, List.length_cons, List.length_nil, forall_eq, Bool.false_eq_true, Bool.true_eq_false, Int.reduceToNat, Option.some.injEq, exists_eq_left', ints_asList, map_snoc, map_app, list_map, ints_nil, ints_get, ints_len, bs_get, Int.toNat_natCast, List.length_append, List.length_map, bs_length, hD, e64, strs_asList]
    refine ⟨fun h => by omega, fun _ => hfin _ ?_⟩
    rw [List.take_of_length_le (by omega)])) rfl
end Go.Proofs.YtnbbepgmnbmfdaaDoor
