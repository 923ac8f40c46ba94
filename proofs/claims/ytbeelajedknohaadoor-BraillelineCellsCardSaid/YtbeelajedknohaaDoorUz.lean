/- The contracts of Finish: the program's and the reference's. -/
import Derived.Test.YtbeelajedknohaaDoorUs
namespace Go.Proofs.YtbeelajedknohaaDoor
set_option linter.unusedSimpArgs false
set_option linter.unusedVariables false
set_option linter.unusedSectionVars false

theorem finish_c (k : Nat) : Contract Tryd.prog (mkEnv globT []) gtab (sn_utf8stream_Finish k) finishL.pre finishL.post := Contract.env (Γ := mkEnv globT [decodeL]) (contract_utf8stream_Finish (fun _ => rfl) (fun s hs => by
    simp only [cx_utf8stream_Finish, List.mem_singleton] at hs
    subst hs
    exact Contract.inEnv rfl (decode_c 0) rfl) k (by
  rintro ts hl ⟨p, rfl, hsz⟩
  have hfin : ∀ r : TV, r = ints (fin (bs p)) → finishL.post [.str p] r := fun r hr p' e => by
    simp only [List.cons.injEq, TV.str.injEq, and_true] at e
    subst e
    exact hr
  generalize finishL.post [.str p] = R at hfin ⊢
  unfold tr_utf8stream_Finish
  have hlen := dec_len (bs p)
  have := bs_length p
  simp only [Tree.den, E.den, P1.den, P2.den, P3.den, List.map_cons, List.map_nil, List.cons_append, List.nil_append, List.getD_cons_zero, List.getD_cons_succ, List.getElem?_cons_zero, List.getElem?_cons_succ, asInt_int, asBool_bool, asStr_str, asList_list, cells_agg, TV.cell, pre_zero, pre_succ, post_zero, post_succ, decide_eq_true_eq, decide_eq_false_iff_not, beq_iff_eq, beq_eq_false_iff_ne, Bool.not_eq_true', Bool.not_eq_false', ne_eq, List.length_cons, List.length_nil, forall_eq, Bool.false_eq_true, Bool.true_eq_false, Int.reduceToNat, Option.some.injEq, exists_eq_left', decode_all, decT]
  simp only [Tree.den, E.den, P1.den, P2.den, P3.den, List.map_cons, List.map_nil, List.cons_append, List.nil_append, List.getD_cons_zero, List.getD_cons_succ, List.getElem?_cons_zero, List.getElem?_cons_succ, asInt_int, asBool_bool, asStr_str, asList_list, cells_agg, TV.cell, pre_zero, pre_succ, post_zero, post_succ, decide_eq_true_eq, decide_eq_false_iff_not, beq_iff_eq, beq_eq_false_iff_ne, Bool.not_eq_true', Bool.not_eq_false', ne_eq, List.length_cons, List.length_nil, forall_eq, Bool.false_eq_true, Bool.true_eq_false, Int.reduceToNat, Option.some.injEq, exists_eq_left', ints_asList, map_snoc, map_app, list_map, ints_nil, ints_get, ints_len, bs_get, Int.toNat_natCast, List.length_append, List.length_map, bs_length, unbs_nil]
  refine ⟨decode_pre (by rw [List.length_nil]; omega), fun h => ⟨by omega, hfin _ ?_⟩, fun h => hfin _ ?_⟩
  · unfold fin; rw [if_neg h]
  · unfold fin; rw [if_pos h, List.append_nil])) rfl

theorem refFinish_c (k : Nat) : Contract Tryd.prog (mkEnv globT []) gtab (sn_ref01_Finish k) finishL.pre finishL.post := Contract.env (Γ := mkEnv globT [decodeL]) (contract_ref01_Finish (fun _ => rfl) (fun s hs => by
    simp only [cx_ref01_Finish, List.mem_singleton] at hs
    subst hs
    exact Contract.inEnv rfl (refDecode_c 0) rfl) k (by
  rintro ts hl ⟨p, rfl, hsz⟩
  have hfin : ∀ r : TV, r = ints (fin (bs p)) → finishL.post [.str p] r := fun r hr p' e => by
    simp only [List.cons.injEq, TV.str.injEq, and_true] at e
    subst e
    exact hr
  generalize finishL.post [.str p] = R at hfin ⊢
  unfold tr_ref01_Finish
  have hlen := dec_len (bs p)
  have := bs_length p
  simp only [Tree.den, E.den, P1.den, P2.den, P3.den, List.map_cons, List.map_nil, List.cons_append, List.nil_append, List.getD_cons_zero, List.getD_cons_succ, List.getElem?_cons_zero, List.getElem?_cons_succ, asInt_int, asBool_bool, asStr_str, asList_list, cells_agg, TV.cell, pre_zero, pre_succ, post_zero, post_succ, decide_eq_true_eq, decide_eq_false_iff_not, beq_iff_eq, beq_eq_false_iff_ne, Bool.not_eq_true', Bool.not_eq_false', ne_eq, List.length_cons, List.length_nil, forall_eq, Bool.false_eq_true, Bool.true_eq_false, Int.reduceToNat, Option.some.injEq, exists_eq_left', decode_all, decT]
  simp only [Tree.den, E.den, P1.den, P2.den, P3.den, List.map_cons, List.map_nil, List.cons_append, List.nil_append, List.getD_cons_zero, List.getD_cons_succ, List.getElem?_cons_zero, List.getElem?_cons_succ, asInt_int, asBool_bool, asStr_str, asList_list, cells_agg, TV.cell, pre_zero, pre_succ, post_zero, post_succ, decide_eq_true_eq, decide_eq_false_iff_not, beq_iff_eq, beq_eq_false_iff_ne, Bool.not_eq_true', Bool.not_eq_false', ne_eq, List.length_cons, List.length_nil, forall_eq, Bool.false_eq_true, Bool.true_eq_false, Int.reduceToNat, Option.some.injEq, exists_eq_left', ints_asList, map_snoc, map_app, list_map, ints_nil, ints_get, ints_len, bs_get, Int.toNat_natCast, List.length_append, List.length_map, bs_length, unbs_nil]
  refine ⟨decode_pre (by rw [List.length_nil]; omega), fun h => ⟨by omega, hfin _ ?_⟩, fun h => hfin _ ?_⟩
  · unfold fin; rw [if_neg h]
  · unfold fin; rw [if_pos h, List.append_nil])) rfl
end Go.Proofs.YtbeelajedknohaaDoor
