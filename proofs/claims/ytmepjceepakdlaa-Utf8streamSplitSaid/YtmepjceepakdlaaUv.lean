/- The laws Pending and Synchronizes of chapter 01. -/
import Derived.Test.YtmepjceepakdlaaUt
namespace Go.Proofs.Ytmepjceepakdlaa
set_option linter.unusedSimpArgs false
set_option linter.unusedVariables false
set_option linter.unusedSectionVars false

def oneP (ts : List TV) : Prop := ∃ s, ts = [.str s] ∧ s.length ≤ reachBytes
theorem pending_c (k : Nat) : Contract Try.prog (mkEnv globT []) gtab (sn_law01_Utf8streamPending k) (trueL oneP).pre (trueL oneP).post := Contract.env (Γ := mkEnv globT [decodeL, finishL, sameL, awakeL]) (contract_law01_Utf8streamPending (fun _ => rfl) (fun s hs => by
    simp only [cx_law01_Utf8streamPending, List.mem_cons, List.not_mem_nil, or_false] at hs
    rcases hs with rfl | rfl | rfl | rfl
    · exact Contract.inEnv rfl (decode_c 0) rfl
    · exact Contract.inEnv rfl (finish_c 1) rfl
    · exact Contract.inEnv rfl (same_c 2) rfl
    · exact Contract.inEnv rfl (awake_c 3) rfl) k (by
  rintro ts hl ⟨s, rfl, h0⟩
  have fin : (trueL oneP).post [.str s] (.bool true) := rfl
  generalize (trueL oneP).post [.str s] = R at fin ⊢
  have hm : reachBytes ≤ 140737488355328 := by decide
  have l1 : TV.list [.int 65533] = ints [65533] := rfl
  unfold tr_law01_Utf8streamPending
  simp only [Tree.den, E.den, P1.den, P2.den, P3.den, List.map_cons, List.map_nil, List.cons_append, List.nil_append, List.getD_cons_zero, List.getD_cons_succ, List.getElem?_cons_zero, List.getElem?_cons_succ, asInt_int, asBool_bool, asStr_str, asList_list, cells_agg, TV.cell, pre_zero, pre_succ, post_zero, post_succ, decide_eq_true_eq, decide_eq_false_iff_not, beq_iff_eq, beq_eq_false_iff_ne, Bool.not_eq_true', Bool.not_eq_false', ne_eq, List.length_cons, List.length_nil, forall_eq, Bool.false_eq_true, Bool.true_eq_false, Int.reduceToNat, Option.some.injEq, exists_eq_left', awake_all, decode_all, decT]
  simp only [Tree.den, E.den, P1.den, P2.den, P3.den, List.map_cons, List.map_nil, List.cons_append, List.nil_append, List.getD_cons_zero, List.getD_cons_succ, List.getElem?_cons_zero, List.getElem?_cons_succ, asInt_int, asBool_bool, asStr_str, asList_list, cells_agg, TV.cell, pre_zero, pre_succ, post_zero, post_succ, decide_eq_true_eq, decide_eq_false_iff_not, beq_iff_eq, beq_eq_false_iff_ne, Bool.not_eq_true', Bool.not_eq_false', ne_eq, List.length_cons, List.length_nil, forall_eq, Bool.false_eq_true, Bool.true_eq_false, Int.reduceToNat, Option.some.injEq, exists_eq_left', ints_asList, map_snoc, map_app, list_map, ints_nil, ints_get, ints_len, bs_get, Int.toNat_natCast, List.length_append, List.length_map, bs_length, awake_all, decode_all, finish_all, decT, awake_pre, l1]
  refine ⟨fun h => ⟨trivial, fin⟩, fun h => ?_⟩
  have hg := good_dec (bs s)
  have hk := dec_kept _ hg
  have hlen := dec_len (bs s)
  have hbs := bs_length s
  obtain ⟨pre, hp⟩ := dec_suffix (bs s)
  have hpl := congrArg List.length hp
  rw [List.length_append] at hpl
  rw [unbs_len, bs_rest, hk]
  have hr := bs_rest s
  have h3 := good_length _ hg
  generalize (dec (bs s)).1 = out at *
  generalize (dec (bs s)).2 = K at *
  simp only [hr]
  rw [wrap_i64 (n := (s.length : Int) - K.length) (by omega) (by omega)]
  have e2 : ((s.length : Int) - K.length).toNat = pre.length := by omega
  rw [e2]
  have e3 : List.take (s.length - pre.length) (List.drop pre.length s) = unbs K := by
    rw [List.take_of_length_le (by simp)]
    apply bs_inj
    rw [bs_drop, hp, List.drop_left, hr]
  have hf : Go.Proofs.Ytmepjceepakdlaa.fin K = if K = [] then [] else [65533] := by unfold Go.Proofs.Ytmepjceepakdlaa.fin; rw [hk]; rfl
  have hul := unbs_len K
  refine ⟨decode_pre (by rw [List.length_nil]; omega), decode_pre (by rw [List.length_nil]; omega), fun h => by omega, fun _ => ⟨fun h => by omega, fun _ => ⟨by omega, by omega, fun h => absurd e3 h, fun _ => ⟨fun h => absurd rfl h, fun _ => ⟨fun h => absurd trivial h, fun _ => ⟨fun h => by omega, fun _ => ⟨finish_pre (by omega), fun hz => ?_, fun hz => ?_⟩⟩⟩⟩⟩⟩⟩
  · rw [unbs_nil] at hz
    rw [hf, if_pos hz]
    exact ⟨fun _ => ⟨trivial, fin⟩, fun h => absurd rfl h⟩
  · rw [unbs_nil] at hz
    rw [hf, if_neg hz, same_all]
    refine ⟨same_pre (by simp), ?_⟩
    simp only [decide_true, asBool_bool, true_and, not_true_eq_false, false_implies, true_implies, Bool.true_eq_false, and_true]
    exact fin)) rfl
theorem encode_ascii {n : Int} (h : 0 ≤ n) (k : n < 128) : (Utf8.encode n).data.toList = [UInt8.ofNat n.toNat] := by
  obtain ⟨m, rfl⟩ := Int.eq_ofNat_of_zero_le h
  have key : ∀ m : Fin 128, (Utf8.encode (m.val : Int)).data.toList = [UInt8.ofNat (m.val : Int).toNat] := by decide +kernel
  have hlt : m < 128 := by omega
  have h2 := key ⟨m, hlt⟩
  dsimp only at h2
  exact h2
def syncP (ts : List TV) : Prop := ∃ s t c, ts = [.str s, .str t, .int c] ∧ s.length ≤ reachBytes ∧ t.length ≤ reachBytes ∧ 0 ≤ c ∧ c ≤ 255
theorem sync_c (k : Nat) : Contract Try.prog (mkEnv globT []) gtab (sn_law01_Utf8streamSynchronizes k) (trueL syncP).pre (trueL syncP).post := Contract.env (Γ := mkEnv globT [decodeL, finishL, sameL, awakeL]) (contract_law01_Utf8streamSynchronizes (fun _ => rfl) (fun s hs => by
    simp only [cx_law01_Utf8streamSynchronizes, List.mem_cons, List.not_mem_nil, or_false] at hs
    rcases hs with rfl | rfl | rfl | rfl
    · exact Contract.inEnv rfl (decode_c 0) rfl
    · exact Contract.inEnv rfl (finish_c 1) rfl
    · exact Contract.inEnv rfl (same_c 2) rfl
    · exact Contract.inEnv rfl (awake_c 3) rfl) k (by
  rintro ts hl ⟨s, t, c, rfl, h0, h1, h2, h3⟩
  have fin : (trueL syncP).post [.str s, .str t, .int c] (.bool true) := rfl
  generalize (trueL syncP).post [.str s, .str t, .int c] = R at fin ⊢
  have hm : reachBytes ≤ 140737488355328 := by decide
  have ec : c.tmod 128 = c % 128 := Int.tmod_eq_emod_of_nonneg h2
  have ew : IntKind.wrap .i32 (c % 128) = c % 128 := wrap_i32 (by omega) (by omega)
  have l1 : TV.list [.int (c % 128)] = ints [c % 128] := rfl
  unfold tr_law01_Utf8streamSynchronizes
  simp only [Tree.den, E.den, P1.den, P2.den, P3.den, List.map_cons, List.map_nil, List.cons_append, List.nil_append, List.getD_cons_zero, List.getD_cons_succ, List.getElem?_cons_zero, List.getElem?_cons_succ, asInt_int, asBool_bool, asStr_str, asList_list, cells_agg, TV.cell, pre_zero, pre_succ, post_zero, post_succ, decide_eq_true_eq, decide_eq_false_iff_not, beq_iff_eq, beq_eq_false_iff_ne, Bool.not_eq_true', Bool.not_eq_false', ne_eq, List.length_cons, List.length_nil, forall_eq, Bool.false_eq_true, Bool.true_eq_false, Int.reduceToNat, Option.some.injEq, exists_eq_left', awake_all, decode_all, decT]
  simp only [Tree.den, E.den, P1.den, P2.den, P3.den, List.map_cons, List.map_nil, List.cons_append, List.nil_append, List.getD_cons_zero, List.getD_cons_succ, List.getElem?_cons_zero, List.getElem?_cons_succ, asInt_int, asBool_bool, asStr_str, asList_list, cells_agg, TV.cell, pre_zero, pre_succ, post_zero, post_succ, decide_eq_true_eq, decide_eq_false_iff_not, beq_iff_eq, beq_eq_false_iff_ne, Bool.not_eq_true', Bool.not_eq_false', ne_eq, List.length_cons, List.length_nil, forall_eq, Bool.false_eq_true, Bool.true_eq_false, Int.reduceToNat, Option.some.injEq, exists_eq_left', ints_asList, map_snoc, map_app, list_map, ints_nil, ints_get, ints_len, bs_get, Int.toNat_natCast, List.length_append, List.length_map, bs_length, awake_all, decode_all, finish_all, decT, awake_pre, ec, ew]
  rw [wrap_i64 (n := (s.length : Int) + t.length) (by omega) (by omega)]
  refine ⟨fun h => ⟨trivial, fin⟩, fun h => ?_⟩
  have hg := good_dec (bs s)
  have hk := dec_kept _ hg
  have he := encode_ascii (n := c % 128) (by omega) (by omega)
  have hb : bs (s ++ (Utf8.encode (c % 128)).data.toList ++ t) = bs s ++ (c % 128) :: bs t := by
    rw [he, bs_append, bs_append, List.append_assoc]
    congr 1
    have : ((UInt8.ofNat (c % 128).toNat).toNat : Int) = c % 128 := by rw [UInt8.toNat_ofNat']; omega
    simp only [bs, List.map_cons, List.map_nil, this]
    rfl
  have hd := dec_ascii (bs s) (bs t) (c % 128) (by omega) (by omega)
  rw [← hb] at hd
  have hf : Go.Proofs.Ytmepjceepakdlaa.fin (bs s) = (dec (bs s)).1 ++ Go.Proofs.Ytmepjceepakdlaa.fin (dec (bs s)).2 := by unfold Go.Proofs.Ytmepjceepakdlaa.fin; rw [hk]; rfl
  have hlen := dec_len (bs s)
  have hlent := dec_len (bs t)
  have hlen3 := dec_len (bs (s ++ (Utf8.encode (c % 128)).data.toList ++ t))
  have e1 := bs_length s
  have e2 := bs_length t
  have e3 := bs_length (s ++ (Utf8.encode (c % 128)).data.toList ++ t)
  have hel : (Utf8.encode (c % 128)).data.toList.length = 1 := by rw [he]; rfl
  have hfl : (Go.Proofs.Ytmepjceepakdlaa.fin (dec (bs s)).2).length ≤ 1 := by unfold Go.Proofs.Ytmepjceepakdlaa.fin; rw [hk]; dsimp only; split <;> simp
  rw [bs_rest, hel]
  rw [List.length_append, List.length_append, hel] at e3
  have hul := unbs_len (dec (bs s)).2
  refine ⟨decode_pre (by rw [List.length_nil]; omega), decode_pre (by rw [List.length_nil]; omega), by omega, finish_pre (by omega), by omega, by omega, by omega, by omega, by omega, decode_pre (by rw [List.length_append, List.length_append, hel, List.length_nil]; omega), same_pre (by omega), ?_⟩
  rw [hd, ← hf, same_all]
  have e4 : Go.Proofs.Ytmepjceepakdlaa.fin (bs s) ++ c % 128 :: (dec (bs t)).1 = Go.Proofs.Ytmepjceepakdlaa.fin (bs s) ++ [c % 128] ++ (dec (bs t)).1 := by simp
  rw [e4]
  simp only [decide_true, asBool_bool, true_and, not_true_eq_false, false_implies, true_implies, Bool.true_eq_false, and_true]
  exact fin)) rfl
theorem splitP_of {t u : TV} (h : OkA false [.str] t) (k : OkA false [.int .u16] u) : splitP [t, u] := by
  obtain ⟨s, rfl, _⟩ := h.str
  obtain ⟨z, rfl, h1, h2⟩ := k.int
  exact ⟨s, z, rfl, h1, h2⟩
theorem twoP_of {t u : TV} (h : OkA false [.str] t) (k : OkA false [.str] u) : twoP [t, u] := by
  obtain ⟨s, rfl, h1⟩ := h.str
  obtain ⟨z, rfl, h2⟩ := k.str
  exact ⟨s, z, rfl, h1, h2⟩
theorem oneP_of {t : TV} (h : OkA false [.str] t) : oneP [t] := by
  obtain ⟨s, rfl, h1⟩ := h.str
  exact ⟨s, rfl, h1⟩
theorem syncP_of {t u v : TV} (h : OkA false [.str] t) (k : OkA false [.str] u) (l : OkA false [.int .u8] v) : syncP [t, u, v] := by
  obtain ⟨s, rfl, h1⟩ := h.str
  obtain ⟨z, rfl, h2⟩ := k.str
  obtain ⟨c, rfl, h3, h4⟩ := l.int
  exact ⟨s, z, c, rfl, h1, h2, h3, h4⟩
end Go.Proofs.Ytmepjceepakdlaa
