/- The contracts of package contraction: Length, Translate, first, Table, Back. -/
import Derived.Test.YtbeelajedknohaaDoorCnb
namespace Go.Proofs.YtbeelajedknohaaDoor
set_option linter.unusedSimpArgs false
set_option linter.unusedVariables false
set_option linter.unusedSectionVars false

theorem run_fin (s : List UInt8) : Run (Go.Proofs.YtbeelajedknohaaDoor.fin (bs s)) := fun n hn => by
  have := inR_fin (byte_of_bs s) n hn
  omega
def fromZ : Nat → List (Nat × List Int) → List Int
  | _, [] => []
  | i, (n, c) :: us => List.replicate c.length (i : Int) ++ fromZ (i + n) us
theorem fromZ_len : ∀ (us : List (Nat × List Int)) (i : Nat), (fromZ i us).length = (cellsOf us).length
  | [], _ => rfl
  | (n, c) :: us, i => by
    rw [cellsOf_cons]
    simp only [fromZ, List.length_append, List.length_replicate, fromZ_len us (i + n)]
def transT (l : List Int) : TV := .agg [ints (cellsOf (transZ l)), ints (fromZ 0 (transZ l))]
def TrI (l : List Int) (xs : List TV) : Prop := ∃ (k : Nat) (o f : List Int), xs = [.int k, ints o, ints f] ∧ k ≤ l.length ∧ cellsOf (transZ l) = o ++ cellsOf (transZ (l.drop k)) ∧ fromZ 0 (transZ l) = f ++ fromZ k (transZ (l.drop k))
def Trm (l : List Int) (xs : List TV) : Nat := l.length - (xs.getD 0 (.int 0)).asInt.toNat
def TsI (f c : List Int) (k : Nat) (xs : List TV) : Prop := ∃ j : Nat, xs = [.int j, ints (f ++ List.replicate j (k : Int))] ∧ j ≤ c.length
def Tsm (c : List Int) (xs : List TV) : Nat := c.length - (xs.getD 0 (.int 0)).asInt.toNat
theorem rep_snoc (f : List Int) (j : Nat) (k : Int) : (f ++ List.replicate j k) ++ [k] = f ++ List.replicate (j + 1) k := by
  rw [List.replicate_succ', List.append_assoc]
def transL : Law := ⟨fun ts => ∃ (s : List UInt8), ts = [.str s] ∧ (s.length ≤ 1000000), fun ts z₀ => ∀ (s : List UInt8), ts = [.str s] → z₀ = transT (Go.Proofs.YtbeelajedknohaaDoor.fin (bs s))⟩
theorem trans_pre {s : List UInt8} (h : s.length ≤ 1000000) : transL.pre [.str s] := ⟨s, rfl, h⟩
theorem trans_fin {s : List UInt8} {z₀ : TV} (h : z₀ = transT (Go.Proofs.YtbeelajedknohaaDoor.fin (bs s))) : transL.post [.str s] z₀ := fun s₁ e => by
  simp only [List.cons.injEq, TV.str.injEq, TV.int.injEq, TV.bool.injEq, TV.agg.injEq, TV.list.injEq, ints_eq, and_true, true_and, and_assoc] at e; subst e
  exact h
theorem trans_all {s : List UInt8} {Q : TV → Prop} : (∀ z₀, transL.post [.str s] z₀ → Q z₀) ↔ Q (transT (Go.Proofs.YtbeelajedknohaaDoor.fin (bs s))) := ⟨fun h => h _ (trans_fin rfl), fun h z₀ hr => by rw [hr _ rfl]; exact h⟩
theorem trans_c (k : Nat) : Contract Tryd.prog (mkEnv globT []) gtab (sn_contraction_Translate k) transL.pre transL.post := Contract.env (Γ := mkEnv globT [ccharsL, divideL]) (contract_contraction_Translate (fun _ => rfl) (fun s hs => by
    simp only [cx_contraction_Translate, List.mem_cons, List.not_mem_nil, or_false] at hs
    rcases hs with rfl | rfl
    · exact Contract.inEnv rfl (cchars_c 0) rfl
    · exact Contract.inEnv rfl (divide_c 1) rfl) k (by
  rintro ts hl ⟨s, rfl, hp⟩
  have hfin : ∀ z₀ : TV, z₀ = transT (Go.Proofs.YtbeelajedknohaaDoor.fin (bs s)) → transL.post [.str s] z₀ := fun z₀ h => trans_fin h
  generalize transL.post [.str s] = R at hfin ⊢
  unfold tr_contraction_Translate
  have hll := fin_len' s
  have hrf := run_fin s
  simp only [Tree.den, E.den, P1.den, P2.den, P3.den, List.map_cons, List.map_nil, List.cons_append, List.nil_append, List.getD_cons_zero, List.getD_cons_succ, List.getElem?_cons_zero, List.getElem?_cons_succ, asInt_int, asBool_bool, asStr_str, asList_list, cells_agg, TV.cell, pre_zero, pre_succ, post_zero, post_succ, decide_eq_true_eq, decide_eq_false_iff_not, beq_iff_eq, beq_eq_false_iff_ne, Bool.not_eq_true', Bool.not_eq_false', ne_eq, List.length_cons, List.length_nil, forall_eq, Bool.false_eq_true, Bool.true_eq_false, Int.reduceToNat, Option.some.injEq, exists_eq_left', cchars_all, divide_all]
  simp only [Tree.den, E.den, P1.den, P2.den, P3.den, List.map_cons, List.map_nil, List.cons_append, List.nil_append, List.getD_cons_zero, List.getD_cons_succ, List.getElem?_cons_zero, List.getElem?_cons_succ, asInt_int, asBool_bool, asStr_str, asList_list, cells_agg, TV.cell, pre_zero, pre_succ, post_zero, post_succ, decide_eq_true_eq, decide_eq_false_iff_not, beq_iff_eq, beq_eq_false_iff_ne, Bool.not_eq_true', Bool.not_eq_false', ne_eq, List.length_cons, List.length_nil, forall_eq, Bool.false_eq_true, Bool.true_eq_false, Int.reduceToNat, Option.some.injEq, exists_eq_left', ints_asList, map_snoc, map_app, list_map, ints_nil, ints_get, ints_len, bs_get, Int.toNat_natCast, List.length_append, List.length_map, bs_length, unitsT_list, tab_length]
  generalize Go.Proofs.YtbeelajedknohaaDoor.fin (bs s) = l at *
  refine ⟨cchars_pre hp, divide_pre ⟨hrf, by omega⟩, TrI l, Trm l, ⟨0, [], [], rfl, by omega, by rw [List.drop_zero]; rfl, by rw [List.drop_zero]; rfl⟩, ?_⟩
  rintro xs _ ⟨k, o, f, rfl, hk, ho, hf⟩
  have hD : Trm l [.int (k : Int), ints o, ints f] = l.length - k := rfl
  simp only [Tree.den, E.den, P1.den, P2.den, P3.den, List.map_cons, List.map_nil, List.cons_append, List.nil_append, List.getD_cons_zero, List.getD_cons_succ, List.getElem?_cons_zero, List.getElem?_cons_succ, asInt_int, asBool_bool, asStr_str, asList_list, cells_agg, TV.cell, pre_zero, pre_succ, post_zero, post_succ, decide_eq_true_eq, decide_eq_false_iff_not, beq_iff_eq, beq_eq_false_iff_ne, Bool.not_eq_true', Bool.not_eq_false', ne_eq, List.length_cons, List.length_nil, forall_eq, Bool.false_eq_true, Bool.true_eq_false, Int.reduceToNat, Option.some.injEq, exists_eq_left', ints_asList, map_snoc, map_app, list_map, ints_nil, ints_get, ints_len, bs_get, Int.toNat_natCast, List.length_append, List.length_map, bs_length, hD]
  have htl := trans_len l
  have htb := tot_bd l
  have hfl := fromZ_len (transZ l) 0
  have hol := congrArg List.length ho
  have hfl2 := congrArg List.length hf
  rw [List.length_append] at hol hfl2
  refine ⟨fun hlt => ?_, fun hlt => ?_⟩
  · have hkl : k < l.length := by omega
    rw [units_get (by rw [tab_length]; omega), tabU_get]
    simp only [uT_cells, List.getD_cons_zero, List.getD_cons_succ, ints_len, asInt_int]
    have hd := drop_get hkl
    generalize l.getD k 0 = r at *
    generalize hm : l.drop (k + 1) = m at *
    have hml : m.length = l.length - (k + 1) := by rw [← hm, List.length_drop]
    have hs := best_size r m
    have htc := trans_cons r m
    rw [← hd] at htc
    rw [← hd] at hs
    have hdd : (l.drop k).drop (bestU (l.drop k)).size = l.drop (k + (bestU (l.drop k)).size) := by rw [List.drop_drop]
    rw [hdd] at htc
    rw [htc, cellsOf_cons] at ho
    rw [htc] at hf
    simp only [fromZ] at hf
    have hol := congrArg List.length ho
    have hfl2 := congrArg List.length hf
    simp only [List.length_append, List.length_replicate] at hol hfl2
    generalize bestU (l.drop k) = u at *
    refine ⟨by omega, by omega, by omega, by omega, by omega, TsI f u.cells k, Tsm u.cells, ⟨0, by simp, by omega⟩, ?_⟩
    rintro ys _ ⟨j, rfl, hj⟩
    have hE : ∀ z, Tsm u.cells [.int (j : Int), z] = u.cells.length - j := fun z => rfl
    have ej : IntKind.wrap .i64 ((j : Int) + 1) = ((j + 1 : Nat) : Int) := by rw [wrap_i64 (n := (j : Int) + 1) (by omega) (by omega)]; omega
    have ek : IntKind.wrap .i64 ((k : Int) + (u.size : Int)) = ((k + u.size : Nat) : Int) := by rw [wrap_i64 (by omega) (by omega)]; omega
    simp only [Tree.den, E.den, P1.den, P2.den, P3.den, List.map_cons, List.map_nil, List.cons_append, List.nil_append, List.getD_cons_zero, List.getD_cons_succ, List.getElem?_cons_zero, List.getElem?_cons_succ, asInt_int, asBool_bool, asStr_str, asList_list, cells_agg, TV.cell, pre_zero, pre_succ, post_zero, post_succ, decide_eq_true_eq, decide_eq_false_iff_not, beq_iff_eq, beq_eq_false_iff_ne, Bool.not_eq_true', Bool.not_eq_false', ne_eq, List.length_cons, List.length_nil, forall_eq, Bool.false_eq_true, Bool.true_eq_false, Int.reduceToNat, Option.some.injEq, exists_eq_left', ints_asList, map_snoc, map_app, list_map, ints_nil, ints_get, ints_len, bs_get, Int.toNat_natCast, List.length_append, List.length_map, bs_length, hE, ej, ek, rep_snoc, List.length_replicate]
    refine ⟨fun hlj => ⟨by omega, ⟨j + 1, rfl, by omega⟩, ?_⟩, fun hlj => ⟨by omega, by omega, ⟨k + u.size, _, _, rfl, by omega, ?_, ?_⟩, ?_⟩⟩
    · simp only [Tsm, List.getD_cons_zero, asInt_int]; omega
    · rw [ho, List.append_assoc]
    · have : j = u.cells.length := by omega
      rw [hf, this, List.append_assoc]
    · simp only [Trm, List.getD_cons_zero, asInt_int]; omega
  · have : k = l.length := by omega
    subst this
    rw [List.drop_of_length_le (Nat.le_refl _), trans_nil] at ho hf
    refine hfin _ ?_
    unfold transT
    rw [ho, hf]
    simp [cellsOf, fromZ])) rfl

/-! ### first, Table -/
def firstT (l : List Int) : TV := match findS l with
  | some x => .agg [sT x, .bool true]
  | none => .agg [sT ([], []), .bool false]
theorem bs_prefix (p s : List UInt8) : (bs p).isPrefixOf (bs s) = p.isPrefixOf s := by
  rw [Bool.eq_iff_iff, List.isPrefixOf_iff_prefix, List.isPrefixOf_iff_prefix]
  constructor
  · intro h
    have h2 := List.prefix_iff_eq_take.1 h
    rw [bs_length, ← bs_take] at h2
    exact List.prefix_iff_eq_take.2 (bs_inj h2)
  · rintro ⟨t, rfl⟩
    rw [bs_append]
    exact List.prefix_append _ _
def FiI (s : List UInt8) (xs : List TV) : Prop := ∃ k : Nat, xs = [.int k] ∧ k ≤ 36 ∧ findS (bs s) = (signsB.drop k).find? fun x => (bs x.2).isPrefixOf (bs s)
def Fim (xs : List TV) : Nat := 36 - (xs.getD 0 (.int 0)).asInt.toNat
def firstL : Law := ⟨fun ts => ∃ (s : List UInt8), ts = [signsT, .str s] ∧ (s.length ≤ 1000000), fun ts z₀ => ∀ (s : List UInt8), ts = [signsT, .str s] → z₀ = firstT (bs s)⟩
theorem first_pre {s : List UInt8} (h : s.length ≤ 1000000) : firstL.pre [signsT, .str s] := ⟨s, rfl, h⟩
theorem first_fin {s : List UInt8} {z₀ : TV} (h : z₀ = firstT (bs s)) : firstL.post [signsT, .str s] z₀ := fun s₁ e => by
  simp only [List.cons.injEq, TV.str.injEq, TV.int.injEq, TV.bool.injEq, TV.agg.injEq, TV.list.injEq, ints_eq, and_true, true_and, and_assoc] at e; subst e
  exact h
theorem first_all {s : List UInt8} {Q : TV → Prop} : (∀ z₀, firstL.post [signsT, .str s] z₀ → Q z₀) ↔ Q (firstT (bs s)) := ⟨fun h => h _ (first_fin rfl), fun h z₀ hr => by rw [hr _ rfl]; exact h⟩
theorem first_c (k : Nat) : Contract Tryd.prog (mkEnv globT []) gtab (sn_contraction_first k) firstL.pre firstL.post := Contract.env (Γ := mkEnv globT [hpL]) (contract_contraction_first (fun _ => rfl) (fun s hs => by
    simp only [cx_contraction_first, List.mem_cons, List.not_mem_nil, or_false] at hs
    rcases hs with rfl
    · exact Contract.inEnv rfl (hp_c 0) rfl) k (by
  rintro ts hl ⟨s, rfl, hp⟩
  have hfin : ∀ z₀ : TV, z₀ = firstT (bs s) → firstL.post [signsT, .str s] z₀ := fun z₀ h => first_fin h
  generalize firstL.post [signsT, .str s] = R at hfin ⊢
  unfold tr_contraction_first
  simp only [Tree.den, E.den, P1.den, P2.den, P3.den, List.map_cons, List.map_nil, List.cons_append, List.nil_append, List.getD_cons_zero, List.getD_cons_succ, List.getElem?_cons_zero, List.getElem?_cons_succ, asInt_int, asBool_bool, asStr_str, asList_list, cells_agg, TV.cell, pre_zero, pre_succ, post_zero, post_succ, decide_eq_true_eq, decide_eq_false_iff_not, beq_iff_eq, beq_eq_false_iff_ne, Bool.not_eq_true', Bool.not_eq_false', ne_eq, List.length_cons, List.length_nil, forall_eq, Bool.false_eq_true, Bool.true_eq_false, Int.reduceToNat, Option.some.injEq, exists_eq_left', signsT_list]
  simp only [Tree.den, E.den, P1.den, P2.den, P3.den, List.map_cons, List.map_nil, List.cons_append, List.nil_append, List.getD_cons_zero, List.getD_cons_succ, List.getElem?_cons_zero, List.getElem?_cons_succ, asInt_int, asBool_bool, asStr_str, asList_list, cells_agg, TV.cell, pre_zero, pre_succ, post_zero, post_succ, decide_eq_true_eq, decide_eq_false_iff_not, beq_iff_eq, beq_eq_false_iff_ne, Bool.not_eq_true', Bool.not_eq_false', ne_eq, List.length_cons, List.length_nil, forall_eq, Bool.false_eq_true, Bool.true_eq_false, Int.reduceToNat, Option.some.injEq, exists_eq_left', ints_asList, map_snoc, map_app, list_map, ints_nil, ints_get, ints_len, bs_get, Int.toNat_natCast, List.length_append, List.length_map, bs_length, signs_len]
  refine ⟨FiI s, Fim, ⟨0, rfl, by omega, rfl⟩, ?_⟩
  rintro xs _ ⟨k, rfl, hk, he⟩
  have hD : Fim [.int (k : Int)] = 36 - k := rfl
  have e64 : IntKind.wrap .i64 ((k : Int) + 1) = ((k + 1 : Nat) : Int) := by rw [wrap_i64 (n := (k : Int) + 1) (by omega) (by omega)]; omega
  simp only [Tree.den, E.den, P1.den, P2.den, P3.den, List.map_cons, List.map_nil, List.cons_append, List.nil_append, List.getD_cons_zero, List.getD_cons_succ, List.getElem?_cons_zero, List.getElem?_cons_succ, asInt_int, asBool_bool, asStr_str, asList_list, cells_agg, TV.cell, pre_zero, pre_succ, post_zero, post_succ, decide_eq_true_eq, decide_eq_false_iff_not, beq_iff_eq, beq_eq_false_iff_ne, Bool.not_eq_true', Bool.not_eq_false', ne_eq, List.length_cons, List.length_nil, forall_eq, Bool.false_eq_true, Bool.true_eq_false, Int.reduceToNat, Option.some.injEq, exists_eq_left', ints_asList, map_snoc, map_app, list_map, ints_nil, ints_get, ints_len, bs_get, Int.toNat_natCast, List.length_append, List.length_map, bs_length, hD, signs_len, e64]
  refine ⟨fun hlt => ?_, fun hlt => ?_⟩
  · have hk36 : k < 36 := by omega
    rw [signs_get hk36]
    rw [signs_drop hk36, List.find?_cons, bs_prefix] at he
    simp only [sT_cells, List.getD_cons_zero, List.getD_cons_succ, hp_all, asBool_bool]
    refine ⟨by omega, by omega, hp_pre (by omega), fun h => hfin _ ?_, fun h => ⟨⟨k + 1, rfl, by omega, ?_⟩, ?_⟩⟩
    · rw [h] at he
      unfold firstT
      rw [he]
      rfl
    · rw [he, show (sgn k).2.isPrefixOf s = false by simpa using h]
    · simp only [Fim, List.getD_cons_zero, asInt_int]; omega
  · have : k = 36 := by omega
    subst this
    rw [List.drop_of_length_le (by rw [signs_len]; omega), List.find?_nil] at he
    refine hfin _ ?_
    unfold firstT
    rw [he]
    rfl)) rfl
def textsT : TV := .list (signsB.map fun s => .str s.1)
def cellsT : TV := .list (signsB.map fun s => .str s.2)
def TaI (xs : List TV) : Prop := ∃ k : Nat, xs = [.int k, .list ((signsB.take k).map fun s => .str s.1), .list ((signsB.take k).map fun s => .str s.2)] ∧ k ≤ 36
def Tam (xs : List TV) : Nat := 36 - (xs.getD 0 (.int 0)).asInt.toNat
end Go.Proofs.YtbeelajedknohaaDoor
