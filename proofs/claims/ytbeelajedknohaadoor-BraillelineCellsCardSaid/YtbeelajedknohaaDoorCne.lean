/- The contracts of the reference of layer 52: Texts, Signs, find, Back, SameInts, costs. -/
import Derived.Test.YtbeelajedknohaaDoorCnd
namespace Go.Proofs.YtbeelajedknohaaDoor
set_option linter.unusedSimpArgs false
set_option linter.unusedVariables false
set_option linter.unusedSectionVars false

theorem strs_get1 {k : Nat} (h : k < 36) : (signsB.map fun s => TV.str s.1).getD k (.int 0) = .str (sgn k).1 := by
  unfold sgn
  rw [List.getD_eq_getElem?_getD, List.getElem?_map, List.getD_eq_getElem?_getD, List.getElem?_eq_getElem (by rw [signs_len]; exact h)]
  rfl
theorem strs_get2 {k : Nat} (h : k < 36) : (signsB.map fun s => TV.str s.2).getD k (.int 0) = .str (sgn k).2 := by
  unfold sgn
  rw [List.getD_eq_getElem?_getD, List.getElem?_map, List.getD_eq_getElem?_getD, List.getElem?_eq_getElem (by rw [signs_len]; exact h)]
  rfl
theorem textsT_list : textsT.asList = signsB.map fun s => .str s.1 := rfl
theorem cellsT_list : cellsT.asList = signsB.map fun s => .str s.2 := rfl
def textsL : Law := ⟨fun ts => ts = [], fun ts z₀ => ts = [] → z₀ = textsT⟩
theorem texts_pre : textsL.pre [] := rfl
theorem texts_fin {z₀ : TV} (h : z₀ = textsT) : textsL.post [] z₀ := fun _ => h
theorem texts_all {Q : TV → Prop} : (∀ z₀, textsL.post [] z₀ → Q z₀) ↔ Q (textsT) := ⟨fun h => h _ fun _ => rfl, fun h z₀ hr => by rw [hr rfl]; exact h⟩
theorem texts_c (k : Nat) : Contract Tryd.prog (mkEnv globT []) gtab (sn_ref52_Texts k) textsL.pre textsL.post := Contract.env (Γ := mkEnv globT []) (contract_ref52_Texts (fun _ => rfl) (fun s hs => by
    cases hs) k (by
  rintro ts hl rfl
  have hfin : ∀ z₀ : TV, z₀ = textsT → textsL.post [] z₀ := fun z₀ h => texts_fin h
  generalize textsL.post [] = R at hfin ⊢
  unfold tr_ref52_Texts
  simp only [Tree.den, E.den, P1.den, P2.den, P3.den, List.map_cons, List.map_nil, List.cons_append, List.nil_append, List.getD_cons_zero, List.getD_cons_succ, List.getElem?_cons_zero, List.getElem?_cons_succ, asInt_int, asBool_bool, asStr_str, asList_list, cells_agg, TV.cell, pre_zero, pre_succ, post_zero, post_succ, decide_eq_true_eq, decide_eq_false_iff_not, beq_iff_eq, beq_eq_false_iff_ne, Bool.not_eq_true', Bool.not_eq_false', ne_eq, List.length_cons, List.length_nil, forall_eq, Bool.false_eq_true, Bool.true_eq_false, Int.reduceToNat, Option.some.injEq, exists_eq_left']
  exact hfin _ (by kernel_rfl))) rfl
def oneB : List Int := [47, 63, 55, 46, 62, 33, 35, 41, 57, 49, 43, 59, 51, 42, 12, 44, 28, 34, 20, 2, 6, 18, 22, 54]
def firB : List UInt8 := [56, 56, 56, 56, 56, 53, 53, 53, 53, 53, 53, 53]
def secB : List UInt8 := [100, 101, 110, 115, 116, 101, 103, 108, 110, 115, 116, 121]
theorem oneB_sgn {k : Nat} (h : k < 24) : [byteOf (.int (IntKind.wrap .u8 (128 + oneB.getD k 0)))] = (sgn k).2 := by
  have key : ∀ k : Fin 24, [byteOf (.int (IntKind.wrap .u8 (128 + oneB.getD k.val 0)))] = (sgn k.val).2 := by decide +kernel
  exact key ⟨k, h⟩
theorem secB_sgn {k : Nat} (h : k < 12) : [byteOf (.int (if (bs firB).getD k 0 = 53 then 176 else 168)), byteOf (.int (cellZ ((bs secB).getD k 0)))] = (sgn (24 + k)).2 := by
  have key : ∀ k : Fin 12, [byteOf (.int (if (bs firB).getD k.val 0 = 53 then 176 else 168)), byteOf (.int (cellZ ((bs secB).getD k.val 0)))] = (sgn (24 + k.val)).2 := by decide +kernel
  exact key ⟨k, h⟩
def SgI (xs : List TV) : Prop := ∃ k : Nat, xs = [.int k, .list ((signsB.take k).map fun s => .str s.2)] ∧ k ≤ 24
def Sgm (xs : List TV) : Nat := 24 - (xs.getD 0 (.int 0)).asInt.toNat
def ShI (xs : List TV) : Prop := ∃ k : Nat, xs = [.int k, .list ((signsB.take (24 + k)).map fun s => .str s.2)] ∧ k ≤ 12
def Shm (xs : List TV) : Nat := 12 - (xs.getD 0 (.int 0)).asInt.toNat
theorem take_cells {k : Nat} (h : k < 36) : ((signsB.take k).map fun s => TV.str s.2) ++ [.str (sgn k).2] = (signsB.take (k + 1)).map fun s => .str s.2 := by
  rw [signs_take h, List.map_append]
  rfl
def rsignsL : Law := ⟨fun ts => ts = [], fun ts z₀ => ts = [] → z₀ = cellsT⟩
theorem rsigns_pre : rsignsL.pre [] := rfl
theorem rsigns_fin {z₀ : TV} (h : z₀ = cellsT) : rsignsL.post [] z₀ := fun _ => h
theorem rsigns_all {Q : TV → Prop} : (∀ z₀, rsignsL.post [] z₀ → Q z₀) ↔ Q (cellsT) := ⟨fun h => h _ fun _ => rfl, fun h z₀ hr => by rw [hr rfl]; exact h⟩
theorem rsigns_c (k : Nat) : Contract Tryd.prog (mkEnv globT []) gtab (sn_ref52_Signs k) rsignsL.pre rsignsL.post := Contract.env (Γ := mkEnv globT [cellL]) (contract_ref52_Signs (fun _ => rfl) (fun s hs => by
    simp only [cx_ref52_Signs, List.mem_cons, List.not_mem_nil, or_false] at hs
    rcases hs with rfl
    · exact Contract.inEnv rfl (refCell_c 0) rfl) k (by
  rintro ts hl rfl
  have hfin : ∀ z₀ : TV, z₀ = cellsT → rsignsL.post [] z₀ := fun z₀ h => rsigns_fin h
  generalize rsignsL.post [] = R at hfin ⊢
  unfold tr_ref52_Signs
  have ho : [TV.int 47, .int 63, .int 55, .int 46, .int 62, .int 33, .int 35, .int 41, .int 57, .int 49, .int 43, .int 59, .int 51, .int 42, .int 12, .int 44, .int 28, .int 34, .int 20, .int 2, .int 6, .int 18, .int 22, .int 54] = oneB.map TV.int := rfl
  have hb1 : [100, 101, 110, 115, 116, 101, 103, 108, 110, 115, 116, 121] = secB := rfl
  have hb2 : [56, 56, 56, 56, 56, 53, 53, 53, 53, 53, 53, 53] = firB := rfl
  have ol : oneB.length = 24 := rfl
  simp only [Tree.den]
  refine ⟨SgI, Sgm, ⟨0, rfl, by omega⟩, ?_⟩
  rintro xs _ ⟨k, rfl, hk⟩
  have hD : ∀ z, Sgm [.int (k : Int), z] = 24 - k := fun _ => rfl
  have e64 : IntKind.wrap .i64 ((k : Int) + 1) = ((k + 1 : Nat) : Int) := by rw [wrap_i64 (n := (k : Int) + 1) (by omega) (by omega)]; omega
  have htl : ∀ j, (signsB.take j).length ≤ 36 := fun j => by rw [List.length_take, signs_len]; omega
  have htk := htl k
  simp only [Tree.den, E.den, P1.den, P2.den, P3.den, List.map_cons, List.map_nil, List.cons_append, List.nil_append, List.getD_cons_zero, List.getD_cons_succ, List.getElem?_cons_zero, List.getElem?_cons_succ, asInt_int, asBool_bool, asStr_str, asList_list, cells_agg, TV.cell, pre_zero, pre_succ, post_zero, post_succ, decide_eq_true_eq, decide_eq_false_iff_not, beq_iff_eq, beq_eq_false_iff_ne, Bool.not_eq_true', Bool.not_eq_false', ne_eq, forall_eq, Bool.false_eq_true, Bool.true_eq_false, Int.reduceToNat, Option.some.injEq, exists_eq_left', List.length_cons, List.length_nil, ho, hb1, hb2, hD, e64]
  simp only [Tree.den, E.den, P1.den, P2.den, P3.den, List.map_cons, List.map_nil, List.cons_append, List.nil_append, List.getD_cons_zero, List.getD_cons_succ, List.getElem?_cons_zero, List.getElem?_cons_succ, asInt_int, asBool_bool, asStr_str, asList_list, cells_agg, TV.cell, pre_zero, pre_succ, post_zero, post_succ, decide_eq_true_eq, decide_eq_false_iff_not, beq_iff_eq, beq_eq_false_iff_ne, Bool.not_eq_true', Bool.not_eq_false', ne_eq, List.length_cons, List.length_nil, forall_eq, Bool.false_eq_true, Bool.true_eq_false, Int.reduceToNat, Option.some.injEq, exists_eq_left', ints_asList, map_snoc, map_app, list_map, ints_nil, ints_get, ints_len, bs_get, Int.toNat_natCast, List.length_append, List.length_map, bs_length, ho, hD, e64, ol]
  refine ⟨fun hlt => ⟨by omega, by omega, by omega, ⟨k + 1, ?_, by omega⟩, ?_⟩, fun hlt => ⟨ShI, Shm, ⟨0, ?_, by omega⟩, ?_⟩⟩
  · rw [oneB_sgn (by omega), take_cells (by omega)]
  · simp only [Sgm, List.getD_cons_zero, asInt_int]; omega
  · have : k = 24 := by omega
    subst this
    rfl
  · rintro ys _ ⟨j, rfl, hj⟩
    have hE : ∀ z, Shm [.int (j : Int), z] = 12 - j := fun _ => rfl
    have ej : IntKind.wrap .i64 ((j : Int) + 1) = ((j + 1 : Nat) : Int) := by rw [wrap_i64 (n := (j : Int) + 1) (by omega) (by omega)]; omega
    have hsb := bs_getD secB j
    have htj := htl (24 + j)
    simp only [Tree.den, E.den, P1.den, P2.den, P3.den, List.map_cons, List.map_nil, List.cons_append, List.nil_append, List.getD_cons_zero, List.getD_cons_succ, List.getElem?_cons_zero, List.getElem?_cons_succ, asInt_int, asBool_bool, asStr_str, asList_list, cells_agg, TV.cell, pre_zero, pre_succ, post_zero, post_succ, decide_eq_true_eq, decide_eq_false_iff_not, beq_iff_eq, beq_eq_false_iff_ne, Bool.not_eq_true', Bool.not_eq_false', ne_eq, List.length_cons, List.length_nil, forall_eq, Bool.false_eq_true, Bool.true_eq_false, Int.reduceToNat, Option.some.injEq, exists_eq_left', ints_asList, map_snoc, map_app, list_map, ints_nil, ints_get, ints_len, bs_get, Int.toNat_natCast, List.length_append, List.length_map, bs_length, hE, ej, cell_all, pairT]
    rw [wrap_i32 (n := (bs secB).getD j 0) (by omega) (by omega)]
    refine ⟨fun hlt => ⟨by omega, by omega, cell_pre (by omega) (by omega), by omega, by omega, fun h53 => ⟨by omega, ⟨j + 1, ?_, by omega⟩, ?_⟩, fun h53 => ⟨by omega, ⟨j + 1, ?_, by omega⟩, ?_⟩⟩, fun hlt => hfin _ ?_⟩
    · have := secB_sgn (k := j) (by omega)
      rw [if_pos h53] at this
      rw [this, take_cells (by omega)]
      rfl
    · simp only [Shm, List.getD_cons_zero, asInt_int]; omega
    · have := secB_sgn (k := j) (by omega)
      rw [if_neg h53] at this
      rw [this, take_cells (by omega)]
      rfl
    · simp only [Shm, List.getD_cons_zero, asInt_int]; omega
    · have : j = 12 := by omega
      subst this
      rfl)) rfl
def findT (l : List Int) : TV := match findS l with
  | some x => .agg [.str x.1, .int x.2.length]
  | none => .agg [.str [], .int 0]
theorem begins_unbs {l : List Int} (hb : Byte l) (t : List UInt8) (h : t.length ≤ l.length) : (unbs (l.take t.length) == t) = (bs t).isPrefixOf l := by
  rw [Bool.eq_iff_iff, List.isPrefixOf_iff_prefix, List.prefix_iff_eq_take, beq_iff_eq, bs_length]
  constructor
  · intro e
    have e2 := congrArg bs e
    rw [bs_unbs (hb.take _)] at e2
    exact e2.symm
  · intro e
    rw [← e, unbs_bs]
theorem prefix_short {l : List Int} {t : List UInt8} (h : l.length < t.length) : (bs t).isPrefixOf l = false := by
  rw [Bool.eq_false_iff]
  intro e
  have := (List.isPrefixOf_iff_prefix.1 e).length_le
  rw [bs_length] at this
  omega
def FnI (l : List Int) (xs : List TV) : Prop := ∃ k : Nat, xs = [.int k] ∧ k ≤ 36 ∧ findS l = (signsB.drop k).find? fun x => (bs x.2).isPrefixOf l
def findL : Law := ⟨fun ts => ∃ (l : List Int), ts = [ints l] ∧ (Byte l ∧ l.length ≤ 1000000), fun ts z₀ => ∀ (l : List Int), ts = [ints l] → z₀ = findT l⟩
theorem find_pre {l : List Int} (h : Byte l ∧ l.length ≤ 1000000) : findL.pre [ints l] := ⟨l, rfl, h⟩
theorem find_fin {l : List Int} {z₀ : TV} (h : z₀ = findT l) : findL.post [ints l] z₀ := fun l₁ e => by
  simp only [List.cons.injEq, TV.str.injEq, TV.int.injEq, TV.bool.injEq, TV.agg.injEq, TV.list.injEq, ints_eq, and_true, true_and, and_assoc] at e; subst e
  exact h
theorem find_all {l : List Int} {Q : TV → Prop} : (∀ z₀, findL.post [ints l] z₀ → Q z₀) ↔ Q (findT l) := ⟨fun h => h _ (find_fin rfl), fun h z₀ hr => by rw [hr _ rfl]; exact h⟩
theorem find_c (k : Nat) : Contract Tryd.prog (mkEnv globT []) gtab (sn_ref52_find k) findL.pre findL.post := Contract.env (Γ := mkEnv globT [textsL, rsignsL]) (contract_ref52_find (fun _ => rfl) (fun s hs => by
    simp only [cx_ref52_find, List.mem_cons, List.not_mem_nil, or_false] at hs
    rcases hs with rfl | rfl
    · exact Contract.inEnv rfl (texts_c 0) rfl
    · exact Contract.inEnv rfl (rsigns_c 1) rfl) k (by
  rintro ts hl ⟨l, rfl, hp⟩
  have hfin : ∀ z₀ : TV, z₀ = findT l → findL.post [ints l] z₀ := fun z₀ h => find_fin h
  generalize findL.post [ints l] = R at hfin ⊢
  unfold tr_ref52_find
  obtain ⟨hb, hsz⟩ := hp
  simp only [Tree.den, E.den, P1.den, P2.den, P3.den, List.map_cons, List.map_nil, List.cons_append, List.nil_append, List.getD_cons_zero, List.getD_cons_succ, List.getElem?_cons_zero, List.getElem?_cons_succ, asInt_int, asBool_bool, asStr_str, asList_list, cells_agg, TV.cell, pre_zero, pre_succ, post_zero, post_succ, decide_eq_true_eq, decide_eq_false_iff_not, beq_iff_eq, beq_eq_false_iff_ne, Bool.not_eq_true', Bool.not_eq_false', ne_eq, List.length_cons, List.length_nil, forall_eq, Bool.false_eq_true, Bool.true_eq_false, Int.reduceToNat, Option.some.injEq, exists_eq_left', texts_all, rsigns_all, textsT_list, cellsT_list]
  simp only [Tree.den, E.den, P1.den, P2.den, P3.den, List.map_cons, List.map_nil, List.cons_append, List.nil_append, List.getD_cons_zero, List.getD_cons_succ, List.getElem?_cons_zero, List.getElem?_cons_succ, asInt_int, asBool_bool, asStr_str, asList_list, cells_agg, TV.cell, pre_zero, pre_succ, post_zero, post_succ, decide_eq_true_eq, decide_eq_false_iff_not, beq_iff_eq, beq_eq_false_iff_ne, Bool.not_eq_true', Bool.not_eq_false', ne_eq, List.length_cons, List.length_nil, forall_eq, Bool.false_eq_true, Bool.true_eq_false, Int.reduceToNat, Option.some.injEq, exists_eq_left', ints_asList, map_snoc, map_app, list_map, ints_nil, ints_get, ints_len, bs_get, Int.toNat_natCast, List.length_append, List.length_map, bs_length, signs_len]
  refine ⟨texts_pre, rsigns_pre, FnI l, Fim, ⟨0, rfl, by omega, rfl⟩, ?_⟩
  rintro xs _ ⟨k, rfl, hk, he⟩
  have hD : Fim [.int (k : Int)] = 36 - k := rfl
  have e64 : IntKind.wrap .i64 ((k : Int) + 1) = ((k + 1 : Nat) : Int) := by rw [wrap_i64 (n := (k : Int) + 1) (by omega) (by omega)]; omega
  simp only [Tree.den, E.den, P1.den, P2.den, P3.den, List.map_cons, List.map_nil, List.cons_append, List.nil_append, List.getD_cons_zero, List.getD_cons_succ, List.getElem?_cons_zero, List.getElem?_cons_succ, asInt_int, asBool_bool, asStr_str, asList_list, cells_agg, TV.cell, pre_zero, pre_succ, post_zero, post_succ, decide_eq_true_eq, decide_eq_false_iff_not, beq_iff_eq, beq_eq_false_iff_ne, Bool.not_eq_true', Bool.not_eq_false', ne_eq, List.length_cons, List.length_nil, forall_eq, Bool.false_eq_true, Bool.true_eq_false, Int.reduceToNat, Option.some.injEq, exists_eq_left', ints_asList, map_snoc, map_app, list_map, ints_nil, ints_get, ints_len, bs_get, Int.toNat_natCast, List.length_append, List.length_map, bs_length, hD, signs_len, e64]
  refine ⟨fun hlt => ?_, fun hlt => ?_⟩
  · have hk36 : k < 36 := by omega
    rw [strs_get1 hk36, strs_get2 hk36]
    rw [signs_drop hk36, List.find?_cons] at he
    have next : (bs (sgn k).2).isPrefixOf l = false → FnI l [.int ((k + 1 : Nat) : Int)] ∧ Fim [.int ((k + 1 : Nat) : Int)] < 36 - k := by
      intro h
      refine ⟨⟨k + 1, rfl, by omega, by rw [he, h]⟩, ?_⟩
      simp only [Fim, List.getD_cons_zero, asInt_int]; omega
    have hcut : ((l.map TV.int).drop 0).take ((sgn k).2.length - 0) = (l.take (sgn k).2.length).map TV.int := by rw [List.drop_zero, Nat.sub_zero, List.map_take]
    simp only [asStr_str, Int.toNat_natCast, Int.reduceToNat, hcut, byteOf_unbs]
    refine ⟨by omega, by omega, fun hle => ⟨by omega, by omega, by omega, by omega, by omega, by omega, fun heq => ⟨by omega, by omega, by omega, by omega, hfin _ ?_⟩, fun hne => next ?_⟩, fun hgt => next (prefix_short (by omega))⟩
    · have h := begins_unbs hb (sgn k).2 (by omega)
      rw [beq_iff_eq.2 heq] at h
      rw [← h] at he
      unfold findT
      rw [he]
    · have h := begins_unbs hb (sgn k).2 (by omega)
      rw [← h]
      simpa using hne
  · have : k = 36 := by omega
    subst this
    rw [List.drop_of_length_le (by rw [signs_len]; omega), List.find?_nil] at he
    refine hfin _ ?_
    unfold findT
    rw [he])) rfl
def SiI (a b : List Int) (xs : List TV) : Prop := ∃ k : Nat, xs = [.int k] ∧ k ≤ a.length ∧ a.take k = b.take k
def Sim (a : List Int) (xs : List TV) : Nat := a.length - (xs.getD 0 (.int 0)).asInt.toNat
def sintL : Law := ⟨fun ts => ∃ (a : List Int) (b : List Int), ts = [ints a, ints b] ∧ (a.length ≤ 1099511627776), fun ts z₀ => ∀ (a : List Int) (b : List Int), ts = [ints a, ints b] → z₀ = .bool (decide (a = b))⟩
theorem sint_pre {a : List Int} {b : List Int} (h : a.length ≤ 1099511627776) : sintL.pre [ints a, ints b] := ⟨a, b, rfl, h⟩
theorem sint_fin {a : List Int} {b : List Int} {z₀ : TV} (h : z₀ = .bool (decide (a = b))) : sintL.post [ints a, ints b] z₀ := fun a₁ b₁ e => by
  simp only [List.cons.injEq, TV.str.injEq, TV.int.injEq, TV.bool.injEq, TV.agg.injEq, TV.list.injEq, ints_eq, and_true, true_and, and_assoc] at e; obtain ⟨rfl, rfl⟩ := e
  exact h
theorem sint_all {a : List Int} {b : List Int} {Q : TV → Prop} : (∀ z₀, sintL.post [ints a, ints b] z₀ → Q z₀) ↔ Q (.bool (decide (a = b))) := ⟨fun h => h _ (sint_fin rfl), fun h z₀ hr => by rw [hr _ _ rfl]; exact h⟩
theorem sint_c (k : Nat) : Contract Tryd.prog (mkEnv globT []) gtab (sn_ref52_SameInts k) sintL.pre sintL.post := Contract.env (Γ := mkEnv globT []) (contract_ref52_SameInts (fun _ => rfl) (fun s hs => by
    cases hs) k (by
  rintro ts hl ⟨a, b, rfl, hp⟩
  have hfin : ∀ z₀ : TV, z₀ = .bool (decide (a = b)) → sintL.post [ints a, ints b] z₀ := fun z₀ h => sint_fin h
  generalize sintL.post [ints a, ints b] = R at hfin ⊢
  unfold tr_ref52_SameInts
  simp only [Tree.den, E.den, P1.den, P2.den, P3.den, List.map_cons, List.map_nil, List.cons_append, List.nil_append, List.getD_cons_zero, List.getD_cons_succ, List.getElem?_cons_zero, List.getElem?_cons_succ, asInt_int, asBool_bool, asStr_str, asList_list, cells_agg, TV.cell, pre_zero, pre_succ, post_zero, post_succ, decide_eq_true_eq, decide_eq_false_iff_not, beq_iff_eq, beq_eq_false_iff_ne, Bool.not_eq_true', Bool.not_eq_false', ne_eq, List.length_cons, List.length_nil, forall_eq, Bool.false_eq_true, Bool.true_eq_false, Int.reduceToNat, Option.some.injEq, exists_eq_left']
  simp only [Tree.den, E.den, P1.den, P2.den, P3.den, List.map_cons, List.map_nil, List.cons_append, List.nil_append, List.getD_cons_zero, List.getD_cons_succ, List.getElem?_cons_zero, List.getElem?_cons_succ, asInt_int, asBool_bool, asStr_str, asList_list, cells_agg, TV.cell, pre_zero, pre_succ, post_zero, post_succ, decide_eq_true_eq, decide_eq_false_iff_not, beq_iff_eq, beq_eq_false_iff_ne, Bool.not_eq_true', Bool.not_eq_false', ne_eq, List.length_cons, List.length_nil, forall_eq, Bool.false_eq_true, Bool.true_eq_false, Int.reduceToNat, Option.some.injEq, exists_eq_left', ints_asList, map_snoc, map_app, list_map, ints_nil, ints_get, ints_len, bs_get, Int.toNat_natCast, List.length_append, List.length_map, bs_length]
  refine ⟨fun h => hfin _ (by rw [decide_eq_false fun e => h (by rw [e])]), fun h => ⟨SiI a b, Sim a, ⟨0, rfl, by omega, rfl⟩, ?_⟩⟩
  rintro xs _ ⟨k, rfl, hk, he⟩
  have hD : Sim a [.int (k : Int)] = a.length - k := rfl
  have e64 : IntKind.wrap .i64 ((k : Int) + 1) = ((k + 1 : Nat) : Int) := by rw [wrap_i64 (n := (k : Int) + 1) (by omega) (by omega)]; omega
  simp only [Tree.den, E.den, P1.den, P2.den, P3.den, List.map_cons, List.map_nil, List.cons_append, List.nil_append, List.getD_cons_zero, List.getD_cons_succ, List.getElem?_cons_zero, List.getElem?_cons_succ, asInt_int, asBool_bool, asStr_str, asList_list, cells_agg, TV.cell, pre_zero, pre_succ, post_zero, post_succ, decide_eq_true_eq, decide_eq_false_iff_not, beq_iff_eq, beq_eq_false_iff_ne, Bool.not_eq_true', Bool.not_eq_false', ne_eq, List.length_cons, List.length_nil, forall_eq, Bool.false_eq_true, Bool.true_eq_false, Int.reduceToNat, Option.some.injEq, exists_eq_left', ints_asList, map_snoc, map_app, list_map, ints_nil, ints_get, ints_len, bs_get, Int.toNat_natCast, List.length_append, List.length_map, bs_length, hD, e64]
  have hl : a.length = b.length := by omega
  refine ⟨fun hlt => ⟨by omega, by omega, by omega, by omega, fun hne => hfin _ (by rw [decide_eq_false fun e => hne (by rw [e])]), fun heq => ⟨⟨k + 1, rfl, by omega, ?_⟩, ?_⟩⟩, fun hlt => hfin _ ?_⟩
  · rw [take_snoc (l := a) (k := k) (by omega), take_snoc (l := b) (k := k) (by omega), he, heq]
  · simp only [Sim, List.getD_cons_zero, asInt_int]; omega
  · rw [List.take_of_length_le (by omega), List.take_of_length_le (by omega)] at he
    rw [decide_eq_true he])) rfl
end Go.Proofs.YtbeelajedknohaaDoor
