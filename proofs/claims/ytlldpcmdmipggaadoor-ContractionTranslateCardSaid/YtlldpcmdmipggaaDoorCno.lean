/- The law of Translate. -/
import Derived.Test.YtlldpcmdmipggaaDoorCnl
import Derived.Test.YtlldpcmdmipggaaDoorJoi
namespace Go.Proofs.YtlldpcmdmipggaaDoor
set_option linter.unusedSimpArgs false
set_option linter.unusedVariables false
set_option linter.unusedSectionVars false

def txtL : List (List UInt8) := signsB.map (·.1)
def celL : List (List UInt8) := signsB.map (·.2)
theorem textsT_strs : textsT = strsT txtL := by unfold textsT strsT txtL; rw [List.map_map]; rfl
theorem cellsT_strs : cellsT = strsT celL := by unfold cellsT strsT celL; rw [List.map_map]; rfl
theorem join_txt : txtL ≠ [] ∧ txtL.length ≤ 1000000 ∧ (Lib.join txtL [32]).length ≤ 1000000000 := by decide +kernel
theorem join_cel : celL ≠ [] ∧ celL.length ≤ 1000000 ∧ (Lib.join celL []).length ≤ 1000000000 := by decide +kernel
theorem celL_len : celL.length = 36 := rfl
theorem lawTrans_c (k : Nat) : Contract Tryd.prog (mkEnv globT []) gtab (sn_law52_ContractionTranslate k) (trueL strP).pre (trueL strP).post := Contract.env (Γ := mkEnv globT [joinL, sameL, transL, ctabL, lengthL, textsL, rsignsL, rtransL, sintL, awakeL]) (contract_law52_ContractionTranslate (fun _ => rfl) (fun s hs => by
    simp only [cx_law52_ContractionTranslate, List.mem_cons, List.not_mem_nil, or_false] at hs
    rcases hs with rfl | rfl | rfl | rfl | rfl | rfl | rfl | rfl | rfl | rfl
    · exact Contract.inEnv rfl (join_c 0) rfl
    · exact Contract.inEnv rfl (same_c 1) rfl
    · exact Contract.inEnv rfl (trans_c 2) rfl
    · exact Contract.inEnv rfl (ctab_c 3) rfl
    · exact Contract.inEnv rfl (length_c 4) rfl
    · exact Contract.inEnv rfl (texts_c 5) rfl
    · exact Contract.inEnv rfl (rsigns_c 6) rfl
    · exact Contract.inEnv rfl (rtrans_c 7) rfl
    · exact Contract.inEnv rfl (sint_c 8) rfl
    · exact Contract.inEnv rfl (awake_c 9) rfl) k (by
  rintro ts hl ⟨s, rfl, _⟩
  unfold tr_law52_ContractionTranslate
  have hfl := fin_len' s
  have htl := trans_len (Go.Proofs.YtlldpcmdmipggaaDoor.fin (bs s))
  have htb := tot_bd (Go.Proofs.YtlldpcmdmipggaaDoor.fin (bs s))
  have hfz := fromZ_len (transZ (Go.Proofs.YtlldpcmdmipggaaDoor.fin (bs s))) 0
  simp only [Tree.den, E.den, P1.den, P2.den, P3.den, List.map_cons, List.map_nil, List.cons_append, List.nil_append, List.getD_cons_zero, List.getD_cons_succ, List.getElem?_cons_zero, List.getElem?_cons_succ, asInt_int, asBool_bool, asStr_str, asList_list, cells_agg, TV.cell, pre_zero, pre_succ, post_zero, post_succ, decide_eq_true_eq, decide_eq_false_iff_not, beq_iff_eq, beq_eq_false_iff_ne, Bool.not_eq_true', Bool.not_eq_false', ne_eq, List.length_cons, List.length_nil, forall_eq, Bool.false_eq_true, Bool.true_eq_false, Int.reduceToNat, Option.some.injEq, exists_eq_left', awake_all, trans_all, rtrans_all, ctab_all, transT, textsT_strs, cellsT_strs]
  simp only [Tree.den, E.den, P1.den, P2.den, P3.den, List.map_cons, List.map_nil, List.cons_append, List.nil_append, List.getD_cons_zero, List.getD_cons_succ, List.getElem?_cons_zero, List.getElem?_cons_succ, asInt_int, asBool_bool, asStr_str, asList_list, cells_agg, TV.cell, pre_zero, pre_succ, post_zero, post_succ, decide_eq_true_eq, decide_eq_false_iff_not, beq_iff_eq, beq_eq_false_iff_ne, Bool.not_eq_true', Bool.not_eq_false', ne_eq, List.length_cons, List.length_nil, forall_eq, Bool.false_eq_true, Bool.true_eq_false, Int.reduceToNat, Option.some.injEq, exists_eq_left', ints_asList, map_snoc, map_app, list_map, ints_nil, ints_get, ints_len, bs_get, Int.toNat_natCast, List.length_append, List.length_map, bs_length, awake_all, same_all, sint_all, length_all, join_all, texts_all, rsigns_all, textsT_strs, cellsT_strs, strsT_list, celL_len]
  refine ⟨fun _ => ⟨awake_pre, rfl⟩, fun ha => ⟨trans_pre (by omega), rtrans_pre (by omega), ctab_pre, same_pre (by omega), ?_⟩⟩
  have q1 := join_pre (l := txtL) (s := [32]) join_txt
  have q2 := join_pre (l := celL) (s := []) join_cel
  have q3 := length_pre (s := s) (by omega)
  have q4 : sintL.pre [ints (fromZ 0 (transZ (Go.Proofs.YtlldpcmdmipggaaDoor.fin (bs s)))), ints (fromZ 0 (transZ (Go.Proofs.YtlldpcmdmipggaaDoor.fin (bs s))))] := sint_pre (by omega)
  have w1 : (totZ (Go.Proofs.YtlldpcmdmipggaaDoor.fin (bs s)) : Int) = ((cellsOf (transZ (Go.Proofs.YtlldpcmdmipggaaDoor.fin (bs s)))).length : Int) := by rw [htl]
  repeat' (first
    | exact awake_pre
    | exact texts_pre
    | exact rsigns_pre
    | exact rfl
    | exact q1
    | exact q2
    | exact q3
    | exact q4
    | (refine ⟨fun _ => ?_, fun h => (by first | (exact absurd w1 h) | (exact absurd rfl h) | (exact absurd trivial h) | (exact absurd (by first | rfl | omega | simp) h) | (simp at h))⟩)
    | (refine ⟨?_, ?_⟩)))) rfl
end Go.Proofs.YtlldpcmdmipggaaDoor
