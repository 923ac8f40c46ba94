/- The laws of chapter 01 that need no tables. -/
import Derived.Test.YtmepjceepakdlaaUs
namespace Go.Proofs.Ytmepjceepakdlaa
set_option linter.unusedSimpArgs false
set_option linter.unusedVariables false
set_option linter.unusedSectionVars false

def trueL (pre : List TV → Prop) : Law := ⟨pre, fun _ r => r = .bool true⟩
theorem bs_unbs {l : List Int} (h : Byte l) : bs (unbs l) = l := by
  unfold bs unbs
  rw [List.map_map]
  conv => rhs; rw [← List.map_id l]
  refine List.map_congr_left fun b hb => ?_
  have := h b hb
  simp only [Function.comp, id, UInt8.toNat_ofNat']
  omega
theorem byte_bs (s : List UInt8) : Byte (bs s) := fun b hb => bs_mem hb
theorem byte_dec {l : List Int} (h : Byte l) : Byte (dec l).2 := by
  obtain ⟨p, hp⟩ := dec_suffix l
  intro b hb
  exact h b (by rw [hp]; exact List.mem_append.2 (.inr hb))
theorem bs_rest (s : List UInt8) : bs (unbs (dec (bs s)).2) = (dec (bs s)).2 := bs_unbs (byte_dec (byte_bs s))
theorem unbs_len (l : List Int) : (unbs l).length = l.length := by simp [unbs]

def splitP (ts : List TV) : Prop := ∃ s a, ts = [.str s, .int a] ∧ 0 ≤ a ∧ a ≤ 65535
theorem split_c (k : Nat) : Contract Try.prog (mkEnv globT []) gtab (sn_law01_Utf8streamSplit k) (trueL splitP).pre (trueL splitP).post := Contract.env (Γ := mkEnv globT [decodeL, sameL, awakeL]) (contract_law01_Utf8streamSplit (fun _ => rfl) (fun s hs => by
    simp only [cx_law01_Utf8streamSplit, List.mem_cons, List.not_mem_nil, or_false] at hs
    rcases hs with rfl | rfl | rfl
    · exact Contract.inEnv rfl (decode_c 0) rfl
    · exact Contract.inEnv rfl (same_c 1) rfl
    · exact Contract.inEnv rfl (awake_c 2) rfl) k (by
  rintro ts hl ⟨s, a, rfl, h0, h1⟩
  have fin : (trueL splitP).post [.str s, .int a] (.bool true) := rfl
  generalize (trueL splitP).post [.str s, .int a] = R at fin ⊢
  unfold tr_law01_Utf8streamSplit
  simp only [Tree.den, E.den, P1.den, P2.den, P3.den, List.map_cons, List.map_nil, List.cons_append, List.nil_append, List.getD_cons_zero, List.getD_cons_succ, List.getElem?_cons_zero, List.getElem?_cons_succ, asInt_int, asBool_bool, asStr_str, asList_list, cells_agg, TV.cell, pre_zero, pre_succ, post_zero, post_succ, decide_eq_true_eq, decide_eq_false_iff_not, beq_iff_eq, beq_eq_false_iff_ne, Bool.not_eq_true', Bool.not_eq_false', ne_eq, List.length_cons, List.length_nil, forall_eq, Bool.false_eq_true, Bool.true_eq_false, Int.reduceToNat, Option.some.injEq, exists_eq_left', awake_all, decode_all, decT]
  simp only [Tree.den, E.den, P1.den, P2.den, P3.den, List.map_cons, List.map_nil, List.cons_append, List.nil_append, List.getD_cons_zero, List.getD_cons_succ, List.getElem?_cons_zero, List.getElem?_cons_succ, asInt_int, asBool_bool, asStr_str, asList_list, cells_agg, TV.cell, pre_zero, pre_succ, post_zero, post_succ, decide_eq_true_eq, decide_eq_false_iff_not, beq_iff_eq, beq_eq_false_iff_ne, Bool.not_eq_true', Bool.not_eq_false', ne_eq, List.length_cons, List.length_nil, forall_eq, Bool.false_eq_true, Bool.true_eq_false, Int.reduceToNat, Option.some.injEq, exists_eq_left', ints_asList, map_snoc, map_app, list_map, ints_nil, ints_get, ints_len, bs_get, Int.toNat_natCast, List.length_append, List.length_map, bs_length, awake_all, decode_all, decT, awake_pre]
  refine ⟨fun h => ⟨trivial, fin⟩, fun h => ?_⟩
  have e1 : IntKind.wrap .i64 ((s.length : Int) + 1) = s.length + 1 := wrap_i64 (by omega) (by omega)
  have e2 : IntKind.wrap .i64 a = a := wrap_i64 (by omega) (by omega)
  rw [e1, e2]
  have e3 : a.tmod (s.length + 1) = a % (s.length + 1) := Int.tmod_eq_emod_of_nonneg h0
  have hr1 := Int.emod_nonneg a (b := (s.length : Int) + 1) (by omega)
  have hr2 := Int.emod_lt_of_pos a (b := (s.length : Int) + 1) (by omega)
  rw [e3]
  generalize hm : a % ((s.length : Int) + 1) = m at *
  have hx : List.take (m.toNat - 0) (List.drop 0 s) = s.take m.toNat := by rw [List.drop_zero, Nat.sub_zero]
  have hy : List.take (s.length - m.toNat) (List.drop m.toNat s) = s.drop m.toNat := List.take_of_length_le (by simp)
  rw [hx, hy]
  have hs : s.take m.toNat ++ s.drop m.toNat = s := List.take_append_drop _ _
  have hsl := congrArg List.length hs
  rw [List.length_append] at hsl
  generalize s.take m.toNat = u at *
  generalize s.drop m.toNat = v at *
  have eb : bs (unbs (dec (bs u)).2 ++ v) = (dec (bs u)).2 ++ bs v := by rw [bs_append, bs_rest]
  have hd : dec (bs s) = ((dec (bs u)).1 ++ (dec ((dec (bs u)).2 ++ bs v)).1, (dec ((dec (bs u)).2 ++ bs v)).2) := by rw [← hs, bs_append]; exact dec_split (bs u) (bs v)
  have hlu := dec_len (bs u)
  have hl2 := dec_len ((dec (bs u)).2 ++ bs v)
  have hbu := bs_length u
  have hbv := bs_length v
  have hbs := bs_length s
  rw [List.length_append] at hl2
  have hul := unbs_len (dec (bs u)).2
  rw [eb]
  refine ⟨by omega, hr1, by omega, decode_pre (by rw [List.length_nil]; omega), hr1, by omega, decode_pre (by omega), decode_pre (by rw [List.length_nil]; omega), by omega, by omega, same_pre (by rw [List.length_append]; omega), ?_⟩
  rw [same_all]
  have es : (dec (bs u)).1 ++ (dec ((dec (bs u)).2 ++ bs v)).1 = (dec (bs s)).1 := by rw [hd]
  have er : (dec ((dec (bs u)).2 ++ bs v)).2 = (dec (bs s)).2 := by rw [hd]
  rw [es, er]
  simp only [decide_true, asBool_bool, true_and, not_true_eq_false, false_implies, true_implies, Bool.true_eq_false, and_true]
  exact fin)) rfl

/-! ### Decode -/
def twoP (ts : List TV) : Prop := ∃ p c, ts = [.str p, .str c] ∧ p.length ≤ reachBytes ∧ c.length ≤ reachBytes
theorem lawDecode_c (k : Nat) : Contract Try.prog (mkEnv globT []) gtab (sn_law01_Utf8streamDecode k) (trueL twoP).pre (trueL twoP).post := Contract.env (Γ := mkEnv globT [decodeL, finishL, decodeL, finishL, sameL, awakeL]) (contract_law01_Utf8streamDecode (fun _ => rfl) (fun s hs => by
    simp only [cx_law01_Utf8streamDecode, List.mem_cons, List.not_mem_nil, or_false] at hs
    rcases hs with rfl | rfl | rfl | rfl | rfl | rfl
    · exact Contract.inEnv rfl (decode_c 0) rfl
    · exact Contract.inEnv rfl (finish_c 1) rfl
    · exact Contract.inEnv rfl (refDecode_c 2) rfl
    · exact Contract.inEnv rfl (refFinish_c 3) rfl
    · exact Contract.inEnv rfl (same_c 4) rfl
    · exact Contract.inEnv rfl (awake_c 5) rfl) k (by
  rintro ts hl ⟨p, c, rfl, h0, h1⟩
  have fin : (trueL twoP).post [.str p, .str c] (.bool true) := rfl
  generalize (trueL twoP).post [.str p, .str c] = R at fin ⊢
  have hm : reachBytes ≤ 140737488355328 := by decide
  unfold tr_law01_Utf8streamDecode
  simp only [Tree.den, E.den, P1.den, P2.den, P3.den, List.map_cons, List.map_nil, List.cons_append, List.nil_append, List.getD_cons_zero, List.getD_cons_succ, List.getElem?_cons_zero, List.getElem?_cons_succ, asInt_int, asBool_bool, asStr_str, asList_list, cells_agg, TV.cell, pre_zero, pre_succ, post_zero, post_succ, decide_eq_true_eq, decide_eq_false_iff_not, beq_iff_eq, beq_eq_false_iff_ne, Bool.not_eq_true', Bool.not_eq_false', ne_eq, List.length_cons, List.length_nil, forall_eq, Bool.false_eq_true, Bool.true_eq_false, Int.reduceToNat, Option.some.injEq, exists_eq_left', awake_all, decode_all, decT]
  simp only [Tree.den, E.den, P1.den, P2.den, P3.den, List.map_cons, List.map_nil, List.cons_append, List.nil_append, List.getD_cons_zero, List.getD_cons_succ, List.getElem?_cons_zero, List.getElem?_cons_succ, asInt_int, asBool_bool, asStr_str, asList_list, cells_agg, TV.cell, pre_zero, pre_succ, post_zero, post_succ, decide_eq_true_eq, decide_eq_false_iff_not, beq_iff_eq, beq_eq_false_iff_ne, Bool.not_eq_true', Bool.not_eq_false', ne_eq, List.length_cons, List.length_nil, forall_eq, Bool.false_eq_true, Bool.true_eq_false, Int.reduceToNat, Option.some.injEq, exists_eq_left', ints_asList, map_snoc, map_app, list_map, ints_nil, ints_get, ints_len, bs_get, Int.toNat_natCast, List.length_append, List.length_map, bs_length, awake_all, decode_all, finish_all, decT, awake_pre]
  rw [wrap_i64 (n := (p.length : Int) + c.length) (by omega) (by omega)]
  refine ⟨fun h => ⟨trivial, fin⟩, fun h => ?_⟩
  have hd := dec_len (bs (p ++ c))
  have hd2 := dec_len (bs p)
  have e1 := bs_length (p ++ c)
  have e2 := bs_length p
  rw [List.length_append] at e1
  have hf : (Go.Proofs.Ytmepjceepakdlaa.fin (bs p)).length ≤ 302 := by unfold Go.Proofs.Ytmepjceepakdlaa.fin; rw [List.length_append]; split <;> simp <;> omega
  refine ⟨decode_pre (by omega), decode_pre (by omega), same_pre (by omega), ?_⟩
  rw [same_all]
  simp only [decide_true, asBool_bool, true_and, not_true_eq_false, false_implies, true_implies, Bool.true_eq_false, and_true]
  refine ⟨finish_pre (by omega), finish_pre (by omega), same_pre (by omega), ?_⟩
  rw [same_all]
  simp only [decide_true, asBool_bool, true_and, not_true_eq_false, false_implies, true_implies, Bool.true_eq_false, and_true]
  exact fin)) rfl
end Go.Proofs.Ytmepjceepakdlaa
