/- The laws of Encode, of the round trip, of canonical strings, of Go's own conversion. -/
import Derived.Test.YtmepjceepakdlaaDoorUw
import Derived.Test.YtmepjceepakdlaaDoorEnu
import Derived.Test.YtmepjceepakdlaaDoorVsd
import Derived.Test.YtmepjceepakdlaaDoorV1
namespace Go.Proofs.YtmepjceepakdlaaDoor
set_option linter.unusedSimpArgs false
set_option linter.unusedVariables false
set_option linter.unusedSectionVars false

def trueL (pre : List TV → Prop) : Law := ⟨pre, fun _ r => r = .bool true⟩
def validL : Law := ⟨fun ts => ∃ (s : List UInt8), ts = [.str s] ∧ (s.length ≤ 9223372036854775807), fun ts r => ∀ (s : List UInt8), ts = [.str s] → r = .bool (Lib.validD s)⟩
theorem valid_pre {s : List UInt8} (h : s.length ≤ 9223372036854775807) : validL.pre [.str s] := ⟨s, rfl, h⟩
theorem valid_fin {s : List UInt8} {r : TV} (h : r = .bool (Lib.validD s)) : validL.post [.str s] r := fun s₁ e => by
  simp only [List.cons.injEq, TV.str.injEq, TV.int.injEq, TV.bool.injEq, TV.agg.injEq, TV.list.injEq, ints_eq, and_true, true_and, and_assoc] at e; subst e
  exact h
theorem valid_all {s : List UInt8} {Q : TV → Prop} : (∀ r, validL.post [.str s] r → Q r) ↔ Q (.bool (Lib.validD s)) := ⟨fun h => h _ (valid_fin rfl), fun h r hr => by rw [hr _ rfl]; exact h⟩
theorem valid_c (k : Nat) : Contract Tryd.prog (mkEnv globT []) gtabU (sn_utf8stream_Valid k) validL.pre validL.post := Contract.env (Γ := mkEnv globT [validSL]) (contract_utf8stream_Valid (fun _ => rfl) (fun s hs => by
    simp only [cx_utf8stream_Valid, List.mem_cons, List.not_mem_nil, or_false] at hs
    rcases hs with rfl
    · exact Contract.inEnv rfl (validS_c 0) rfl) k (by
  rintro ts hl ⟨s, rfl, hp⟩
  have hfin : ∀ r : TV, r = .bool (Lib.validD s) → validL.post [.str s] r := fun r h => valid_fin h
  generalize validL.post [.str s] = R at hfin ⊢
  unfold tr_utf8stream_Valid
  simp only [Tree.den, E.den, P1.den, P2.den, P3.den, List.map_cons, List.map_nil, List.cons_append, List.nil_append, List.getD_cons_zero, List.getD_cons_succ, List.getElem?_cons_zero, List.getElem?_cons_succ, asInt_int, asBool_bool, asStr_str, asList_list, cells_agg, TV.cell, pre_zero, pre_succ, post_zero, post_succ, decide_eq_true_eq, decide_eq_false_iff_not, beq_iff_eq, beq_eq_false_iff_ne, Bool.not_eq_true', Bool.not_eq_false', ne_eq, List.length_cons, List.length_nil, forall_eq, Bool.false_eq_true, Bool.true_eq_false, Int.reduceToNat, Option.some.injEq, exists_eq_left', validS_all]
  exact ⟨validS_pre hp, hfin _ rfl⟩)) rfl
theorem validD_false {s : List UInt8} (h : ¬ validB s) : Lib.validD s = false := by
  cases hv : Lib.validD s with
  | false => rfl
  | true => exact absurd ((validD_iff s).1 hv) h
theorem unbs_eq {l : List Int} {s : List UInt8} (h : Byte l) : unbs l = s ↔ l = bs s := ⟨fun e => by rw [← e, bs_unbs h], fun e => by rw [e, unbs_bs]⟩
theorem validD_eq {s : List UInt8} (h : (dec (bs s)).2 = []) : Lib.validD s = decide (unbs (encZ (dec (bs s)).1) = s) := by
  have hb : Byte (encZ (dec (bs s)).1) := fun b hb => encZ_byte hb
  by_cases hv : validB s
  · rw [(validD_iff s).2 hv]
    have := ((validB_iff s).1 hv).2
    exact (decide_eq_true ((unbs_eq hb).2 this)).symm
  · rw [validD_false hv]
    refine (decide_eq_false fun e => hv ((validB_iff s).2 ⟨h, (unbs_eq hb).1 e⟩)).symm
theorem beq_dec (a b : List UInt8) : (a == b) = decide (a = b) := by by_cases h : a = b <;> simp [h]
theorem validD_pend {s : List UInt8} (h : ¬ (dec (bs s)).2 = []) : Lib.validD s = false := validD_false fun hv => h ((validB_iff s).1 hv).1
theorem dec_fst_len (s : List UInt8) : (dec (bs s)).1.length ≤ s.length := by have := dec_len (bs s); rw [bs_length] at this; omega
def rvalidL : Law := ⟨fun ts => ∃ (s : List UInt8), ts = [.str s] ∧ (s.length ≤ 1000000), fun ts r => ∀ (s : List UInt8), ts = [.str s] → r = .bool (Lib.validD s)⟩
theorem rvalid_pre {s : List UInt8} (h : s.length ≤ 1000000) : rvalidL.pre [.str s] := ⟨s, rfl, h⟩
theorem rvalid_fin {s : List UInt8} {r : TV} (h : r = .bool (Lib.validD s)) : rvalidL.post [.str s] r := fun s₁ e => by
  simp only [List.cons.injEq, TV.str.injEq, TV.int.injEq, TV.bool.injEq, TV.agg.injEq, TV.list.injEq, ints_eq, and_true, true_and, and_assoc] at e; subst e
  exact h
theorem rvalid_all {s : List UInt8} {Q : TV → Prop} : (∀ r, rvalidL.post [.str s] r → Q r) ↔ Q (.bool (Lib.validD s)) := ⟨fun h => h _ (rvalid_fin rfl), fun h r hr => by rw [hr _ rfl]; exact h⟩
theorem rvalid_c (k : Nat) : Contract Tryd.prog (mkEnv globT []) gtab (sn_ref01_Valid k) rvalidL.pre rvalidL.post := Contract.env (Γ := mkEnv globT [decodeL, rencL]) (contract_ref01_Valid (fun _ => rfl) (fun s hs => by
    simp only [cx_ref01_Valid, List.mem_cons, List.not_mem_nil, or_false] at hs
    rcases hs with rfl | rfl
    · exact Contract.inEnv rfl (refDecode_c 0) rfl
    · exact Contract.inEnv rfl (renc_c 1) rfl) k (by
  rintro ts hl ⟨s, rfl, hp⟩
  have hfin : ∀ r : TV, r = .bool (Lib.validD s) → rvalidL.post [.str s] r := fun r h => rvalid_fin h
  generalize rvalidL.post [.str s] = R at hfin ⊢
  unfold tr_ref01_Valid
  have hdl := dec_fst_len s
  have hch := dec_chars s
  simp only [Tree.den, E.den, P1.den, P2.den, P3.den, List.map_cons, List.map_nil, List.cons_append, List.nil_append, List.getD_cons_zero, List.getD_cons_succ, List.getElem?_cons_zero, List.getElem?_cons_succ, asInt_int, asBool_bool, asStr_str, asList_list, cells_agg, TV.cell, pre_zero, pre_succ, post_zero, post_succ, decide_eq_true_eq, decide_eq_false_iff_not, beq_iff_eq, beq_eq_false_iff_ne, Bool.not_eq_true', Bool.not_eq_false', ne_eq, List.length_cons, List.length_nil, forall_eq, Bool.false_eq_true, Bool.true_eq_false, Int.reduceToNat, Option.some.injEq, exists_eq_left', decode_all, decT]
  simp only [Tree.den, E.den, P1.den, P2.den, P3.den, List.map_cons, List.map_nil, List.cons_append, List.nil_append, List.getD_cons_zero, List.getD_cons_succ, List.getElem?_cons_zero, List.getElem?_cons_succ, asInt_int, asBool_bool, asStr_str, asList_list, cells_agg, TV.cell, pre_zero, pre_succ, post_zero, post_succ, decide_eq_true_eq, decide_eq_false_iff_not, beq_iff_eq, beq_eq_false_iff_ne, Bool.not_eq_true', Bool.not_eq_false', ne_eq, List.length_cons, List.length_nil, forall_eq, Bool.false_eq_true, Bool.true_eq_false, Int.reduceToNat, Option.some.injEq, exists_eq_left', ints_asList, map_snoc, map_app, list_map, ints_nil, ints_get, ints_len, bs_get, Int.toNat_natCast, List.length_append, List.length_map, bs_length, renc_all, unbs_nil]
  refine ⟨decode_pre (by rw [List.length_nil]; omega), fun h => ⟨renc_pre ⟨hch.run, by omega⟩, hfin _ ?_⟩, fun h => hfin _ ?_⟩
  · rw [validD_eq h, beq_dec]
  · rw [validD_pend h])) rfl
def runesP (ts : List TV) : Prop := ∃ l : List Int, ts = [ints l] ∧ Run l ∧ l.length ≤ reachBytes
theorem runesP_of {t : TV} (h : OkA false [.slice false [.int .i32]] t) : runesP [t] := by
  obtain ⟨l, rfl, h1, h2⟩ := h.ints
  exact ⟨l, rfl, h2, h1⟩
def runesStrP (ts : List TV) : Prop := ∃ (l : List Int) (s : List UInt8), ts = [ints l, .str s] ∧ Run l
theorem runesStrP_of {t u : TV} (h : OkA false [.slice false [.int .i32]] t) (k : OkA false [.str] u) : runesStrP [t, u] := by
  obtain ⟨l, rfl, h1, h2⟩ := h.ints
  obtain ⟨s, rfl, _⟩ := k.str
  exact ⟨l, s, rfl, h2⟩
def strP (ts : List TV) : Prop := ∃ s, ts = [.str s] ∧ s.length ≤ reachBytes
theorem strP_of {t : TV} (h : OkA false [.str] t) : strP [t] := by
  obtain ⟨s, rfl, h1⟩ := h.str
  exact ⟨s, rfl, h1⟩
theorem lawEncode_c (k : Nat) : Contract Tryd.prog (mkEnv globT []) gtabU (sn_law01_Utf8streamEncode k) (trueL runesStrP).pre (trueL runesStrP).post := Contract.env (Γ := mkEnv globT [encL, rencL, rvalidL, awakeL, validL]) (contract_law01_Utf8streamEncode (fun _ => rfl) (fun s hs => by
    simp only [cx_law01_Utf8streamEncode, List.mem_cons, List.not_mem_nil, or_false] at hs
    rcases hs with rfl | rfl | rfl | rfl | rfl
    · exact Contract.inEnv rfl ((enc_c 0).gt gtab_sub) rfl
    · exact Contract.inEnv rfl ((renc_c 1).gt gtab_sub) rfl
    · exact Contract.inEnv rfl ((rvalid_c 2).gt gtab_sub) rfl
    · exact Contract.inEnv rfl ((awake_c 3).gt gtab_sub) rfl
    · exact Contract.inEnv rfl (valid_c 4) rfl) k (by
  rintro ts hl ⟨l, s, rfl, hr⟩
  unfold tr_law01_Utf8streamEncode
  simp only [Tree.den, E.den, P1.den, P2.den, P3.den, List.map_cons, List.map_nil, List.cons_append, List.nil_append, List.getD_cons_zero, List.getD_cons_succ, List.getElem?_cons_zero, List.getElem?_cons_succ, asInt_int, asBool_bool, asStr_str, asList_list, cells_agg, TV.cell, pre_zero, pre_succ, post_zero, post_succ, decide_eq_true_eq, decide_eq_false_iff_not, beq_iff_eq, beq_eq_false_iff_ne, Bool.not_eq_true', Bool.not_eq_false', ne_eq, List.length_cons, List.length_nil, forall_eq, Bool.false_eq_true, Bool.true_eq_false, Int.reduceToNat, Option.some.injEq, exists_eq_left', awake_all]
  simp only [Tree.den, E.den, P1.den, P2.den, P3.den, List.map_cons, List.map_nil, List.cons_append, List.nil_append, List.getD_cons_zero, List.getD_cons_succ, List.getElem?_cons_zero, List.getElem?_cons_succ, asInt_int, asBool_bool, asStr_str, asList_list, cells_agg, TV.cell, pre_zero, pre_succ, post_zero, post_succ, decide_eq_true_eq, decide_eq_false_iff_not, beq_iff_eq, beq_eq_false_iff_ne, Bool.not_eq_true', Bool.not_eq_false', ne_eq, List.length_cons, List.length_nil, forall_eq, Bool.false_eq_true, Bool.true_eq_false, Int.reduceToNat, Option.some.injEq, exists_eq_left', ints_asList, map_snoc, map_app, list_map, ints_nil, ints_get, ints_len, bs_get, Int.toNat_natCast, List.length_append, List.length_map, bs_length, awake_all, enc_all, renc_all, valid_all, rvalid_all]
  exact ⟨fun _ => ⟨awake_pre, rfl⟩, fun h1 => ⟨fun _ => ⟨awake_pre, rfl⟩, fun h2 => ⟨enc_pre ⟨hr, by omega⟩, renc_pre ⟨hr, by omega⟩, fun _ => ⟨valid_pre (by omega), rvalid_pre (by omega), fun _ => ⟨awake_pre, rfl⟩, fun h => (by simp at h)⟩, fun h => (by simp at h)⟩⟩⟩)) rfl
def WI (l : List Int) (xs : List TV) : Prop := ∃ k : Nat, xs = [.int k, ints ((l.take k).map chZ)] ∧ k ≤ l.length
def Wm (l : List Int) (xs : List TV) : Nat := l.length - (xs.getD 0 (.int 0)).asInt.toNat
theorem roundTrip_c (k : Nat) : Contract Tryd.prog (mkEnv globT []) gtabU (sn_law01_Utf8streamRoundTrip k) (trueL runesP).pre (trueL runesP).post := Contract.env (Γ := mkEnv globT [decodeL, encL, sameL, awakeL, validL]) (contract_law01_Utf8streamRoundTrip (fun _ => rfl) (fun s hs => by
    simp only [cx_law01_Utf8streamRoundTrip, List.mem_cons, List.not_mem_nil, or_false] at hs
    rcases hs with rfl | rfl | rfl | rfl | rfl
    · exact Contract.inEnv rfl ((decode_c 0).gt gtab_sub) rfl
    · exact Contract.inEnv rfl ((enc_c 1).gt gtab_sub) rfl
    · exact Contract.inEnv rfl ((same_c 2).gt gtab_sub) rfl
    · exact Contract.inEnv rfl ((awake_c 3).gt gtab_sub) rfl
    · exact Contract.inEnv rfl (valid_c 4) rfl) k (by
  rintro ts hl ⟨l, rfl, hr, _⟩
  unfold tr_law01_Utf8streamRoundTrip
  have hbu : bs (unbs (encZ l)) = encZ l := bs_unbs fun b hb => encZ_byte hb
  have hdT : decT (unbs (encZ l)) = .agg [ints (l.map chZ), .str []] := by
    unfold decT
    rw [hbu, dec_encZ_any]
    rfl
  have hel := encZ_len l
  have hul := unbs_len (encZ l)
  have hval : Lib.validD (unbs (encZ l)) = true := (validD_iff _).2 ⟨l.map chZ, chZs_ch l, by rw [hbu, encZ_chZ]⟩
  simp only [Tree.den, E.den, P1.den, P2.den, P3.den, List.map_cons, List.map_nil, List.cons_append, List.nil_append, List.getD_cons_zero, List.getD_cons_succ, List.getElem?_cons_zero, List.getElem?_cons_succ, asInt_int, asBool_bool, asStr_str, asList_list, cells_agg, TV.cell, pre_zero, pre_succ, post_zero, post_succ, decide_eq_true_eq, decide_eq_false_iff_not, beq_iff_eq, beq_eq_false_iff_ne, Bool.not_eq_true', Bool.not_eq_false', ne_eq, List.length_cons, List.length_nil, forall_eq, Bool.false_eq_true, Bool.true_eq_false, Int.reduceToNat, Option.some.injEq, exists_eq_left', awake_all]
  simp only [Tree.den, E.den, P1.den, P2.den, P3.den, List.map_cons, List.map_nil, List.cons_append, List.nil_append, List.getD_cons_zero, List.getD_cons_succ, List.getElem?_cons_zero, List.getElem?_cons_succ, asInt_int, asBool_bool, asStr_str, asList_list, cells_agg, TV.cell, pre_zero, pre_succ, post_zero, post_succ, decide_eq_true_eq, decide_eq_false_iff_not, beq_iff_eq, beq_eq_false_iff_ne, Bool.not_eq_true', Bool.not_eq_false', ne_eq, List.length_cons, List.length_nil, forall_eq, Bool.false_eq_true, Bool.true_eq_false, Int.reduceToNat, Option.some.injEq, exists_eq_left', ints_asList, map_snoc, map_app, list_map, ints_nil, ints_get, ints_len, bs_get, Int.toNat_natCast, List.length_append, List.length_map, bs_length, awake_all]
  refine ⟨fun _ => ⟨awake_pre, rfl⟩, fun h100 => ⟨WI l, Wm l, ⟨0, rfl, by omega⟩, ?_⟩⟩
  rintro xs _ ⟨k, rfl, hk⟩
  have hD : ∀ o, Wm l [.int (k : Int), o] = l.length - k := fun o => rfl
  have htl := List.length_take_le k l
  have e64 : IntKind.wrap .i64 ((k : Int) + 1) = ((k + 1 : Nat) : Int) := by rw [wrap_i64 (n := (k : Int) + 1) (by omega) (by omega)]; omega
  simp only [Tree.den, E.den, P1.den, P2.den, P3.den, List.map_cons, List.map_nil, List.cons_append, List.nil_append, List.getD_cons_zero, List.getD_cons_succ, List.getElem?_cons_zero, List.getElem?_cons_succ, asInt_int, asBool_bool, asStr_str, asList_list, cells_agg, TV.cell, pre_zero, pre_succ, post_zero, post_succ, decide_eq_true_eq, decide_eq_false_iff_not, beq_iff_eq, beq_eq_false_iff_ne, Bool.not_eq_true', Bool.not_eq_false', ne_eq, List.length_cons, List.length_nil, forall_eq, Bool.false_eq_true, Bool.true_eq_false, Int.reduceToNat, Option.some.injEq, exists_eq_left', ints_asList, map_snoc, map_app, list_map, ints_nil, ints_get, ints_len, bs_get, Int.toNat_natCast, List.length_append, List.length_map, bs_length, awake_all, hD, e64, enc_all, decode_all, hdT]
  simp only [Tree.den, E.den, P1.den, P2.den, P3.den, List.map_cons, List.map_nil, List.cons_append, List.nil_append, List.getD_cons_zero, List.getD_cons_succ, List.getElem?_cons_zero, List.getElem?_cons_succ, asInt_int, asBool_bool, asStr_str, asList_list, cells_agg, TV.cell, pre_zero, pre_succ, post_zero, post_succ, decide_eq_true_eq, decide_eq_false_iff_not, beq_iff_eq, beq_eq_false_iff_ne, Bool.not_eq_true', Bool.not_eq_false', ne_eq, List.length_cons, List.length_nil, forall_eq, Bool.false_eq_true, Bool.true_eq_false, Int.reduceToNat, Option.some.injEq, exists_eq_left', ints_asList, map_snoc, map_app, list_map, ints_nil, ints_get, ints_len, bs_get, Int.toNat_natCast, List.length_append, List.length_map, bs_length, awake_all, hD, e64, enc_all, decode_all, hdT, same_all, valid_all, hval]
  refine ⟨fun hlt => ⟨by omega, by omega, ?_⟩, fun hlt => ?_⟩
  · have hkl : k < l.length := by omega
    have hs := take_snoc hkl
    generalize hnn : l.getD k 0 = n at *
    have go : ∀ w, w = chZ n → WI l [.int ((k + 1 : Nat) : Int), ints ((l.take k).map chZ ++ [w])] ∧ Wm l [.int ((k + 1 : Nat) : Int), ints ((l.take k).map chZ ++ [w])] < l.length - k := fun w hw => by
      refine ⟨⟨k + 1, ?_, by omega⟩, ?_⟩
      · rw [hs, List.map_append, hw]; rfl
      · simp only [Wm, List.getD_cons_zero, asInt_int]; omega
    have hch : chZ n = if isCh n then n else 65533 := rfl
    rw [hch] at go
    by_cases hc : isCh n
    · rw [if_pos hc] at go
      unfold isCh at hc
      repeat' (first
        | (refine ⟨by omega, go _ rfl⟩)
        | (exfalso; omega)
        | (refine ⟨fun _ => ?_, fun _ => ?_⟩))
    · rw [if_neg hc] at go
      unfold isCh at hc
      repeat' (first
        | (refine ⟨by omega, go _ rfl⟩)
        | (exfalso; omega)
        | (refine ⟨fun _ => ?_, fun _ => ?_⟩))
  · have : k = l.length := by omega
    subst this
    rw [List.take_of_length_le (Nat.le_refl _)]
    exact ⟨enc_pre ⟨hr, by omega⟩, decode_pre (by rw [List.length_nil]; omega), same_pre (by rw [List.length_map]; omega), fun _ => ⟨fun _ => ⟨valid_pre (by omega), fun _ => ⟨awake_pre, rfl⟩, fun h => (by simp at h)⟩, fun h => (by simp at h)⟩, fun h => (by simp at h)⟩)) rfl
theorem canonical_c (k : Nat) : Contract Tryd.prog (mkEnv globT []) gtabU (sn_law01_Utf8streamCanonical k) (trueL strP).pre (trueL strP).post := Contract.env (Γ := mkEnv globT [decodeL, encL, awakeL, validL]) (contract_law01_Utf8streamCanonical (fun _ => rfl) (fun s hs => by
    simp only [cx_law01_Utf8streamCanonical, List.mem_cons, List.not_mem_nil, or_false] at hs
    rcases hs with rfl | rfl | rfl | rfl
    · exact Contract.inEnv rfl ((decode_c 0).gt gtab_sub) rfl
    · exact Contract.inEnv rfl ((enc_c 1).gt gtab_sub) rfl
    · exact Contract.inEnv rfl ((awake_c 2).gt gtab_sub) rfl
    · exact Contract.inEnv rfl (valid_c 3) rfl) k (by
  rintro ts hl ⟨s, rfl, _⟩
  unfold tr_law01_Utf8streamCanonical
  have hdl := dec_fst_len s
  have hch := dec_chars s
  simp only [Tree.den, E.den, P1.den, P2.den, P3.den, List.map_cons, List.map_nil, List.cons_append, List.nil_append, List.getD_cons_zero, List.getD_cons_succ, List.getElem?_cons_zero, List.getElem?_cons_succ, asInt_int, asBool_bool, asStr_str, asList_list, cells_agg, TV.cell, pre_zero, pre_succ, post_zero, post_succ, decide_eq_true_eq, decide_eq_false_iff_not, beq_iff_eq, beq_eq_false_iff_ne, Bool.not_eq_true', Bool.not_eq_false', ne_eq, List.length_cons, List.length_nil, forall_eq, Bool.false_eq_true, Bool.true_eq_false, Int.reduceToNat, Option.some.injEq, exists_eq_left', awake_all, decode_all, decT, List.nil_append]
  simp only [Tree.den, E.den, P1.den, P2.den, P3.den, List.map_cons, List.map_nil, List.cons_append, List.nil_append, List.getD_cons_zero, List.getD_cons_succ, List.getElem?_cons_zero, List.getElem?_cons_succ, asInt_int, asBool_bool, asStr_str, asList_list, cells_agg, TV.cell, pre_zero, pre_succ, post_zero, post_succ, decide_eq_true_eq, decide_eq_false_iff_not, beq_iff_eq, beq_eq_false_iff_ne, Bool.not_eq_true', Bool.not_eq_false', ne_eq, List.length_cons, List.length_nil, forall_eq, Bool.false_eq_true, Bool.true_eq_false, Int.reduceToNat, Option.some.injEq, exists_eq_left', ints_asList, map_snoc, map_app, list_map, ints_nil, ints_get, ints_len, bs_get, Int.toNat_natCast, List.length_append, List.length_map, bs_length, awake_all, enc_all, valid_all, unbs_nil]
  refine ⟨fun _ => ⟨awake_pre, rfl⟩, fun h300 => ⟨decode_pre (by rw [List.length_nil]; omega), valid_pre (by omega), fun h => ⟨enc_pre ⟨hch.run, by omega⟩, fun _ => ⟨awake_pre, rfl⟩, fun hne => absurd ?_ hne⟩, fun h => ⟨fun _ => ⟨awake_pre, rfl⟩, fun hne => absurd (validD_pend h) hne⟩⟩⟩
  rw [validD_eq h, beq_dec])) rfl
theorem go_c (k : Nat) : Contract Tryd.prog (mkEnv globT []) gtabU (sn_law01_Utf8streamGo k) (trueL strP).pre (trueL strP).post := Contract.env (Γ := mkEnv globT [decodeL, encL, sameL, awakeL, validL]) (contract_law01_Utf8streamGo (fun _ => rfl) (fun s hs => by
    simp only [cx_law01_Utf8streamGo, List.mem_cons, List.not_mem_nil, or_false] at hs
    rcases hs with rfl | rfl | rfl | rfl | rfl
    · exact Contract.inEnv rfl ((decode_c 0).gt gtab_sub) rfl
    · exact Contract.inEnv rfl ((enc_c 1).gt gtab_sub) rfl
    · exact Contract.inEnv rfl ((same_c 2).gt gtab_sub) rfl
    · exact Contract.inEnv rfl ((awake_c 3).gt gtab_sub) rfl
    · exact Contract.inEnv rfl (valid_c 4) rfl) k (by
  rintro ts hl ⟨s, rfl, _⟩
  unfold tr_law01_Utf8streamGo
  have hdl := dec_fst_len s
  have hch := dec_chars s
  by_cases hv : validB s
  · have hrl : TV.list (runeList s) = ints (dec (bs s)).1 := by rw [runeList_valid hv]; rfl
    have hvt := (validD_iff s).2 hv
    obtain ⟨_, h2, h3, _⟩ := validB_dec hv
    have hen : unbs (encZ (dec (bs s)).1) = s := by rw [h3, unbs_bs]
    simp only [Tree.den, E.den, P1.den, P2.den, P3.den, List.map_cons, List.map_nil, List.cons_append, List.nil_append, List.getD_cons_zero, List.getD_cons_succ, List.getElem?_cons_zero, List.getElem?_cons_succ, asInt_int, asBool_bool, asStr_str, asList_list, cells_agg, TV.cell, pre_zero, pre_succ, post_zero, post_succ, decide_eq_true_eq, decide_eq_false_iff_not, beq_iff_eq, beq_eq_false_iff_ne, Bool.not_eq_true', Bool.not_eq_false', ne_eq, List.length_cons, List.length_nil, forall_eq, Bool.false_eq_true, Bool.true_eq_false, Int.reduceToNat, Option.some.injEq, exists_eq_left', awake_all, decode_all, decT, List.nil_append, valid_all, hvt, hrl, h2]
    simp only [Tree.den, E.den, P1.den, P2.den, P3.den, List.map_cons, List.map_nil, List.cons_append, List.nil_append, List.getD_cons_zero, List.getD_cons_succ, List.getElem?_cons_zero, List.getElem?_cons_succ, asInt_int, asBool_bool, asStr_str, asList_list, cells_agg, TV.cell, pre_zero, pre_succ, post_zero, post_succ, decide_eq_true_eq, decide_eq_false_iff_not, beq_iff_eq, beq_eq_false_iff_ne, Bool.not_eq_true', Bool.not_eq_false', ne_eq, List.length_cons, List.length_nil, forall_eq, Bool.false_eq_true, Bool.true_eq_false, Int.reduceToNat, Option.some.injEq, exists_eq_left', ints_asList, map_snoc, map_app, list_map, ints_nil, ints_get, ints_len, bs_get, Int.toNat_natCast, List.length_append, List.length_map, bs_length, awake_all, enc_all, same_all, hen, unbs_nil]
    refine ⟨fun _ => ⟨awake_pre, rfl⟩, fun h300 => ⟨valid_pre (by omega), fun h => (by simp at h), fun _ => ⟨decode_pre (by rw [List.length_nil]; omega), by omega, same_pre (by omega), fun _ => ⟨fun _ => ⟨by omega, enc_pre ⟨hch.run, by omega⟩, fun _ => ⟨awake_pre, rfl⟩, fun h => (by simp at h)⟩, fun h => (by simp at h)⟩, fun h => (by simp at h)⟩⟩⟩
  · have hvf := validD_false hv
    simp only [Tree.den, E.den, P1.den, P2.den, P3.den, List.map_cons, List.map_nil, List.cons_append, List.nil_append, List.getD_cons_zero, List.getD_cons_succ, List.getElem?_cons_zero, List.getElem?_cons_succ, asInt_int, asBool_bool, asStr_str, asList_list, cells_agg, TV.cell, pre_zero, pre_succ, post_zero, post_succ, decide_eq_true_eq, decide_eq_false_iff_not, beq_iff_eq, beq_eq_false_iff_ne, Bool.not_eq_true', Bool.not_eq_false', ne_eq, List.length_cons, List.length_nil, forall_eq, Bool.false_eq_true, Bool.true_eq_false, Int.reduceToNat, Option.some.injEq, exists_eq_left', awake_all, decode_all, decT, List.nil_append, valid_all, hvf]
    refine ⟨fun _ => ⟨awake_pre, rfl⟩, fun h300 => ⟨valid_pre (by omega), fun _ => ⟨awake_pre, rfl⟩, fun h => (by simp at h)⟩⟩)) rfl
theorem glob_ofU {l : List (String × DataW Unit)} {W : World} (h : laidMet Tryd.prog l W)
    (h1 : ("unicode/utf8.first", Lib.firstData) ∈ l) (h2 : ("unicode/utf8.acceptRanges", Lib.acceptData) ∈ l) : GlobOk (mkEnv globT []) gtabU W := by
  have hT := tabs_of h h1 h2
  intro g ag cs hg
  simp only [gtabU, List.mem_cons, List.not_mem_nil, or_false, Prod.mk.injEq] at hg
  rcases hg with ⟨rfl, rfl, rfl⟩ | ⟨rfl, rfl, rfl⟩
  · exact rep_first hT
  · exact rep_accept hT
end Go.Proofs.YtmepjceepakdlaaDoor
