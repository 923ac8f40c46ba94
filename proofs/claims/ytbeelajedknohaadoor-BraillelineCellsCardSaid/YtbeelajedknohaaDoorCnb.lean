/- The contracts of package contraction: divide, Translate, Length, Table, first. -/
import Derived.Test.YtbeelajedknohaaDoorCna
namespace Go.Proofs.YtbeelajedknohaaDoor
set_option linter.unusedSimpArgs false
set_option linter.unusedVariables false
set_option linter.unusedSectionVars false

def uT (u : U) : TV := .agg [.int u.size, ints u.cells, .int u.total]
theorem uT_0 (u : U) : (uT u).cell 0 = .int u.size := rfl
theorem uT_1 (u : U) : (uT u).cell 1 = ints u.cells := rfl
theorem uT_2 (u : U) : (uT u).cell 2 = .int u.total := rfl
theorem uT_mk (n : Nat) (c : List Int) (t : Nat) : TV.agg [.int n, ints c, .int t] = uT ⟨n, c, t⟩ := rfl
theorem uT_cells (u : U) : (uT u).cells = [.int u.size, ints u.cells, .int u.total] := rfl
theorem sT_cells (s : List UInt8 × List UInt8) : (sT s).cells = [.str s.1, .str s.2] := rfl
theorem uT_mk1 (c : List Int) (t : Nat) : TV.agg [.int 1, ints c, .int t] = uT ⟨1, c, t⟩ := rfl
def unitsT (us : List U) : TV := .list (us.map uT)
theorem unitsT_list (us : List U) : (unitsT us).asList = us.map uT := rfl
theorem units_get {us : List U} {i : Nat} (h : i < us.length) : (us.map uT).getD i (.int 0) = uT (us.getD i zU) := by
  rw [List.getD_eq_getElem?_getD, List.getElem?_map, List.getD_eq_getElem?_getD, List.getElem?_eq_getElem h]
  rfl
theorem units_set (us : List U) (i : Nat) (u : U) : TV.list ((us.map uT).set i (uT u)) = unitsT (us.set i u) := by
  unfold unitsT
  rw [List.map_set]
def tri (i : Nat) (b : U) (t : List U) : List U := List.replicate i zU ++ b :: t
theorem tri_len (i : Nat) (b : U) (t : List U) : (tri i b t).length = i + 1 + t.length := by simp [tri]; omega
theorem tri_here (i : Nat) (b : U) (t : List U) : (tri i b t).getD i zU = b := by
  unfold tri
  rw [List.getD_eq_getElem?_getD, List.getElem?_append_right (by simp)]
  simp
theorem tri_next (i : Nat) (b : U) (t : List U) {n : Nat} (h : 1 ≤ n) : (tri i b t).getD (i + n) zU = t.getD (n - 1) zU := by
  unfold tri
  rw [List.getD_eq_getElem?_getD, List.getElem?_append_right (by simp), List.length_replicate, List.getD_eq_getElem?_getD]
  obtain ⟨k, rfl⟩ : ∃ k, n = k + 1 := ⟨n - 1, by omega⟩
  rw [show i + (k + 1) - i = k + 1 by omega]
  rfl
theorem tri_set (i : Nat) (b u : U) (t : List U) : (tri i b t).set i u = tri i u t := by
  unfold tri
  rw [List.set_append_right _ _ (by simp)]
  simp
theorem tri_up (i : Nat) (b : U) (t : List U) : List.replicate (i + 1) zU ++ t = tri i zU t := by
  unfold tri
  rw [List.replicate_succ', List.append_assoc]
  rfl
theorem zT : TV.agg [.int 0, .list [], .int 0] = uT zU := rfl
theorem tab_total (l : List Int) (k : Nat) : ((tabU l).getD k zU).total ≤ 7 * l.length := by
  rw [tabU_get]
  have h := tot_bd (l.drop k)
  rw [List.length_drop] at h
  unfold totZ at h
  omega
theorem tabU_step (r : Int) (l : List Int) : tabU (r :: l) = signsB.foldl (betterU (r :: l) fun n => ((tabU l).getD (n - 1) zU).total) (firstU r ((tabU l).getD 0 zU).total) :: tabU l := rfl
def foldU (r : Int) (l : List Int) (j : Nat) : U := (signsB.take j).foldl (betterU (r :: l) fun n => ((tabU l).getD (n - 1) zU).total) (firstU r ((tabU l).getD 0 zU).total)
theorem foldU_step (r : Int) (l : List Int) {j : Nat} (h : j < 36) : foldU r l (j + 1) = betterU (r :: l) (fun n => ((tabU l).getD (n - 1) zU).total) (foldU r l j) (sgn j) := by
  unfold foldU
  rw [signs_take h, List.foldl_append]
  rfl
theorem foldU_all (r : Int) (l : List Int) : tabU (r :: l) = foldU r l 36 :: tabU l := by
  unfold foldU
  rw [List.take_of_length_le (by rw [signs_len]; omega)]
  exact tabU_step r l
theorem foldU_bd (r : Int) (l : List Int) : ∀ j, j ≤ 36 → (foldU r l j).total ≤ 7 * l.length + 7 ∧ (foldU r l j).size ≤ 4
  | 0, _ => by
    have h1 := oneZ_len (chZ r)
    have h2 := tab_total l 0
    unfold foldU firstU
    simp only [List.take_zero, List.foldl_nil]
    omega
  | j + 1, h => by
    have ih := foldU_bd r l j (by omega)
    rw [foldU_step r l (by omega)]
    have hs := signs_two _ (sgn_mem (k := j) (by omega))
    have h2 := tab_total l ((sgn j).1.length - 1)
    unfold betterU
    dsimp only
    split
    · split
      · dsimp only; omega
      · exact ih
    · exact ih
theorem sgn_two {k : Nat} (h : k < 36) : 2 ≤ (sgn k).1.length ∧ (sgn k).1.length ≤ 4 ∧ 1 ≤ (sgn k).2.length ∧ (sgn k).2.length ≤ 2 := signs_two _ (sgn_mem h)
theorem begins_len {l : List Int} {t : List UInt8} (h : beginsZ l t = true) : t.length ≤ l.length := by
  unfold beginsZ at h
  have := (List.isPrefixOf_iff_prefix.1 h).length_le
  rwa [bs_length] at this
theorem better_if {l : List Int} {t : Nat → Nat} {b : U} {s : List UInt8 × List UInt8} (h : beginsZ l s.1 = true) (k : s.2.length + t s.1.length < b.total ∨ (s.2.length + t s.1.length = b.total ∧ b.size < s.1.length)) : betterU l t b s = ⟨s.1.length, bs s.2, s.2.length + t s.1.length⟩ := by
  unfold betterU; rw [if_pos h, if_pos k]
theorem better_not {l : List Int} {t : Nat → Nat} {b : U} {s : List UInt8 × List UInt8} (k : ¬ (s.2.length + t s.1.length < b.total ∨ (s.2.length + t s.1.length = b.total ∧ b.size < s.1.length))) : betterU l t b s = b := by
  unfold betterU; split
  · first | rfl | rw [if_neg k]
  · rfl
theorem better_none {l : List Int} {t : Nat → Nat} {b : U} {s : List UInt8 × List UInt8} (h : beginsZ l s.1 = false) : betterU l t b s = b := by
  unfold betterU; rw [if_neg (by rw [h]; decide)]
def DvI (l : List Int) (xs : List TV) : Prop := ∃ k : Nat, xs = [.int ((k : Int) - 1), unitsT (List.replicate k zU ++ tabU (l.drop k))] ∧ k ≤ l.length
def Dvm (xs : List TV) : Nat := ((xs.getD 0 (.int 0)).asInt + 1).toNat
def DwI (l : List Int) (r : Int) (m : List Int) (i : Nat) (xs : List TV) : Prop := ∃ j : Nat, xs = [.int j, unitsT (tri i (foldU r m j) (tabU m))] ∧ j ≤ 36
def Dwm (xs : List TV) : Nat := 36 - (xs.getD 0 (.int 0)).asInt.toNat
def divideL : Law := ⟨fun ts => ∃ (l : List Int), ts = [ints l] ∧ (Run l ∧ l.length ≤ 1000000), fun ts z₀ => ∀ (l : List Int), ts = [ints l] → z₀ = unitsT (tabU l)⟩
theorem divide_pre {l : List Int} (h : Run l ∧ l.length ≤ 1000000) : divideL.pre [ints l] := ⟨l, rfl, h⟩
theorem divide_fin {l : List Int} {z₀ : TV} (h : z₀ = unitsT (tabU l)) : divideL.post [ints l] z₀ := fun l₁ e => by
  simp only [List.cons.injEq, TV.str.injEq, TV.int.injEq, TV.bool.injEq, TV.agg.injEq, TV.list.injEq, ints_eq, and_true, true_and, and_assoc] at e; subst e
  exact h
theorem divide_all {l : List Int} {Q : TV → Prop} : (∀ z₀, divideL.post [ints l] z₀ → Q z₀) ↔ Q (unitsT (tabU l)) := ⟨fun h => h _ (divide_fin rfl), fun h z₀ hr => by rw [hr _ rfl]; exact h⟩
theorem divide_c (k : Nat) : Contract Tryd.prog (mkEnv globT []) gtab (sn_contraction_divide k) divideL.pre divideL.post := Contract.env (Γ := mkEnv globT [signsL, aloneL, beginsL]) (contract_contraction_divide (fun _ => rfl) (fun s hs => by
    simp only [cx_contraction_divide, List.mem_cons, List.not_mem_nil, or_false] at hs
    rcases hs with rfl | rfl | rfl
    · exact Contract.inEnv rfl (signs_c 0) rfl
    · exact Contract.inEnv rfl (alone_c 1) rfl
    · exact Contract.inEnv rfl (begins_c 2) rfl) k (by
  rintro ts hl ⟨l, rfl, hp⟩
  have hfin : ∀ z₀ : TV, z₀ = unitsT (tabU l) → divideL.post [ints l] z₀ := fun z₀ h => divide_fin h
  generalize divideL.post [ints l] = R at hfin ⊢
  unfold tr_contraction_divide
  obtain ⟨hrun, hsz⟩ := hp
  simp only [Tree.den, E.den, P1.den, P2.den, P3.den, List.map_cons, List.map_nil, List.cons_append, List.nil_append, List.getD_cons_zero, List.getD_cons_succ, List.getElem?_cons_zero, List.getElem?_cons_succ, asInt_int, asBool_bool, asStr_str, asList_list, cells_agg, TV.cell, pre_zero, pre_succ, post_zero, post_succ, decide_eq_true_eq, decide_eq_false_iff_not, beq_iff_eq, beq_eq_false_iff_ne, Bool.not_eq_true', Bool.not_eq_false', ne_eq, List.length_cons, List.length_nil, forall_eq, Bool.false_eq_true, Bool.true_eq_false, Int.reduceToNat, Option.some.injEq, exists_eq_left', signs_all]
  simp only [Tree.den, E.den, P1.den, P2.den, P3.den, List.map_cons, List.map_nil, List.cons_append, List.nil_append, List.getD_cons_zero, List.getD_cons_succ, List.getElem?_cons_zero, List.getElem?_cons_succ, asInt_int, asBool_bool, asStr_str, asList_list, cells_agg, TV.cell, pre_zero, pre_succ, post_zero, post_succ, decide_eq_true_eq, decide_eq_false_iff_not, beq_iff_eq, beq_eq_false_iff_ne, Bool.not_eq_true', Bool.not_eq_false', ne_eq, List.length_cons, List.length_nil, forall_eq, Bool.false_eq_true, Bool.true_eq_false, Int.reduceToNat, Option.some.injEq, exists_eq_left', ints_asList, map_snoc, map_app, list_map, ints_nil, ints_get, ints_len, bs_get, Int.toNat_natCast, List.length_append, List.length_map, bs_length, zT]
  have e1 : IntKind.wrap .i64 ((l.length : Int) + 1) = ((l.length + 1 : Nat) : Int) := by rw [wrap_i64 (by omega) (by omega)]; omega
  have e2 : IntKind.wrap .i64 ((l.length : Int) - 1) = (l.length : Int) - 1 := by rw [wrap_i64 (by omega) (by omega)]
  rw [e1, e2]
  simp only [Int.toNat_natCast]
  refine ⟨by omega, by omega, by omega, signs_pre, DvI l, Dvm, ⟨l.length, ?_, Nat.le_refl _⟩, ?_⟩
  · rw [List.drop_of_length_le (Nat.le_refl _)]
    unfold unitsT
    rw [List.map_append, List.map_replicate, List.replicate_succ']
    rfl
  rintro xs _ ⟨k, rfl, hk⟩
  have hD : Dvm [.int ((k : Int) - 1), unitsT (List.replicate k zU ++ tabU (l.drop k))] = k := by
    simp only [Dvm, List.getD_cons_zero, asInt_int]; omega
  rw [hD]
  simp only [Tree.den, E.den, P1.den, P2.den, P3.den, List.map_cons, List.map_nil, List.cons_append, List.nil_append, List.getD_cons_zero, List.getD_cons_succ, List.getElem?_cons_zero, List.getElem?_cons_succ, asInt_int, asBool_bool, asStr_str, asList_list, cells_agg, TV.cell, pre_zero, pre_succ, post_zero, post_succ, decide_eq_true_eq, decide_eq_false_iff_not, beq_iff_eq, beq_eq_false_iff_ne, Bool.not_eq_true', Bool.not_eq_false', ne_eq, List.length_cons, List.length_nil, forall_eq, Bool.false_eq_true, Bool.true_eq_false, Int.reduceToNat, Option.some.injEq, exists_eq_left', ints_asList, map_snoc, map_app, list_map, ints_nil, ints_get, ints_len, bs_get, Int.toNat_natCast, List.length_append, List.length_map, bs_length, unitsT_list, signsT_list, signs_len]
  refine ⟨fun hlt => ?_, fun hlt => ?_⟩
  · obtain ⟨i, rfl⟩ : ∃ i, k = i + 1 := ⟨k - 1, by omega⟩
    have ei : ((i + 1 : Nat) : Int) - 1 = (i : Int) := by omega
    have e64 : IntKind.wrap .i64 ((i : Int) + 1) = ((i + 1 : Nat) : Int) := by rw [wrap_i64 (n := (i : Int) + 1) (by omega) (by omega)]; omega
    have e65 : IntKind.wrap .i64 ((i : Int) - 1) = (i : Int) - 1 := by rw [wrap_i64 (by omega) (by omega)]
    have hil : i < l.length := by omega
    have hdl := drop_get hil
    have hrr : -2147483648 ≤ l.getD i 0 ∧ l.getD i 0 ≤ 2147483647 := hrun _ (by rw [List.getD_eq_getElem?_getD, List.getElem?_eq_getElem hil]; exact List.getElem_mem hil)
    generalize hr : l.getD i 0 = r at *
    generalize hm : l.drop (i + 1) = m at *
    have hml : m.length = l.length - (i + 1) := by rw [← hm, List.length_drop]
    have hone := oneZ_len (chZ r)
    have ht0 := tab_total m 0
    have hbt := tri_up i zU (tabU m)
    rw [hbt]
    have hlen : ∀ b, (tri i b (tabU m)).length = l.length + 1 := fun b => by rw [tri_len, tab_length]; omega
    simp only [ei, e64, e65, hr, alone_all, Tree.den, E.den, P1.den, P2.den, P3.den, List.map_cons, List.map_nil, List.cons_append, List.nil_append, List.getD_cons_zero, List.getD_cons_succ, List.getElem?_cons_zero, List.getElem?_cons_succ, asInt_int, asBool_bool, asStr_str, asList_list, cells_agg, TV.cell, pre_zero, pre_succ, post_zero, post_succ, decide_eq_true_eq, decide_eq_false_iff_not, beq_iff_eq, beq_eq_false_iff_ne, Bool.not_eq_true', Bool.not_eq_false', ne_eq, List.length_cons, List.length_nil, forall_eq, Bool.false_eq_true, Bool.true_eq_false, Int.reduceToNat, Option.some.injEq, exists_eq_left', ints_asList, map_snoc, map_app, list_map, ints_nil, ints_get, ints_len, bs_get, Int.toNat_natCast, List.length_append, List.length_map, bs_length, unitsT_list, List.length_map, hlen, List.length_replicate, tab_length]
    rw [units_get (by rw [hlen]; omega), tri_next i zU (tabU m) (by omega : 1 ≤ 1), Nat.sub_self]
    simp only [uT_cells, List.getD_cons_zero, List.getD_cons_succ, asInt_int]
    rw [show IntKind.wrap .i64 (((oneZ (chZ r)).length : Int) + (((tabU m).getD 0 zU).total : Int)) = (((oneZ (chZ r)).length + ((tabU m).getD 0 zU).total : Nat) : Int) by rw [wrap_i64 (by omega) (by omega)]; omega]
    rw [uT_mk1, units_set, tri_set]
    refine ⟨by omega, by omega, alone_pre hrr, by omega, by omega, by omega, by omega, DwI l r m i, Dwm, ⟨0, rfl, by omega⟩, ?_⟩
    rintro ys _ ⟨j, rfl, hj⟩
    have hE : ∀ z, Dwm [.int (j : Int), z] = 36 - j := fun z => rfl
    have ej : IntKind.wrap .i64 ((j : Int) + 1) = ((j + 1 : Nat) : Int) := by rw [wrap_i64 (n := (j : Int) + 1) (by omega) (by omega)]; omega
    rw [hE]
    simp only [Tree.den, E.den, P1.den, P2.den, P3.den, List.map_cons, List.map_nil, List.cons_append, List.nil_append, List.getD_cons_zero, List.getD_cons_succ, List.getElem?_cons_zero, List.getElem?_cons_succ, asInt_int, asBool_bool, asStr_str, asList_list, cells_agg, TV.cell, pre_zero, pre_succ, post_zero, post_succ, decide_eq_true_eq, decide_eq_false_iff_not, beq_iff_eq, beq_eq_false_iff_ne, Bool.not_eq_true', Bool.not_eq_false', ne_eq, List.length_cons, List.length_nil, forall_eq, Bool.false_eq_true, Bool.true_eq_false, Int.reduceToNat, Option.some.injEq, exists_eq_left', ints_asList, map_snoc, map_app, list_map, ints_nil, ints_get, ints_len, bs_get, Int.toNat_natCast, List.length_append, List.length_map, bs_length, unitsT_list, signsT_list, signs_len, ej, hlen]
    refine ⟨fun hlj => ?_, fun hlj => ?_⟩
    · have hj36 : j < 36 := by omega
      have hs2 := sgn_two hj36
      have hfb := foldU_bd r m j hj
      have hstep := foldU_step r m hj36
      rw [signs_get hj36]
      simp only [sT_cells, List.getD_cons_zero, List.getD_cons_succ, asStr_str]
      have hsub : TV.list (((l.map TV.int).drop i).take (l.length - i)) = ints (r :: m) := by rw [ints_drop, hdl]
      rw [hsub]
      simp only [begins_all, Tree.den, E.den, P1.den, P2.den, P3.den, List.map_cons, List.map_nil, List.cons_append, List.nil_append, List.getD_cons_zero, List.getD_cons_succ, List.getElem?_cons_zero, List.getElem?_cons_succ, asInt_int, asBool_bool, asStr_str, asList_list, cells_agg, TV.cell, pre_zero, pre_succ, post_zero, post_succ, decide_eq_true_eq, decide_eq_false_iff_not, beq_iff_eq, beq_eq_false_iff_ne, Bool.not_eq_true', Bool.not_eq_false', ne_eq, List.length_cons, List.length_nil, forall_eq, Bool.false_eq_true, Bool.true_eq_false, Int.reduceToNat, Option.some.injEq, exists_eq_left', ints_asList, map_snoc, map_app, list_map, ints_nil, ints_get, ints_len, bs_get, Int.toNat_natCast, List.length_append, List.length_map, bs_length]
      refine ⟨by omega, by omega, by omega, by omega, begins_pre (by rw [List.length_cons]; omega), fun hno => ⟨⟨j + 1, ?_, by omega⟩, ?_⟩, fun hyes => ?_⟩
      · rw [hstep, better_none (by simpa using hno)]
      · simp only [Dwm, List.getD_cons_zero, asInt_int]; omega
      · have hyes : beginsZ (r :: m) (sgn j).1 = true := by simpa using hyes
        have hbl := begins_len hyes
        rw [List.length_cons] at hbl
        have htt := tab_total m ((sgn j).1.length - 1)
        have en : IntKind.wrap .i64 ((i : Int) + ((sgn j).1.length : Int)) = ((i + (sgn j).1.length : Nat) : Int) := by rw [wrap_i64 (by omega) (by omega)]; omega
        simp only [en, Int.toNat_natCast]
        rw [units_get (by rw [hlen]; omega), units_get (us := tri i (foldU r m j) (tabU m)) (i := i) (by rw [hlen]; omega), tri_next i _ (tabU m) (by omega), tri_here]
        simp only [uT_cells, List.getD_cons_zero, List.getD_cons_succ, asInt_int]
        have et : IntKind.wrap .i64 (((sgn j).2.length : Int) + (((tabU m).getD ((sgn j).1.length - 1) zU).total : Int)) = (((sgn j).2.length + ((tabU m).getD ((sgn j).1.length - 1) zU).total : Nat) : Int) := by rw [wrap_i64 (by omega) (by omega)]; omega
        have eb : TV.list ((sgn j).2.map fun b => TV.int b.toNat) = ints (bs (sgn j).2) := by simp [ints, bs]
        rw [et, eb, uT_mk, units_set, tri_set]
        have take : ((sgn j).2.length + ((tabU m).getD ((sgn j).1.length - 1) zU).total < (foldU r m j).total ∨ ((sgn j).2.length + ((tabU m).getD ((sgn j).1.length - 1) zU).total = (foldU r m j).total ∧ (foldU r m j).size < (sgn j).1.length)) →
            DwI l r m i [.int ((j + 1 : Nat) : Int), unitsT (tri i ⟨(sgn j).1.length, bs (sgn j).2, (sgn j).2.length + ((tabU m).getD ((sgn j).1.length - 1) zU).total⟩ (tabU m))] ∧ Dwm [.int ((j + 1 : Nat) : Int), unitsT (tri i ⟨(sgn j).1.length, bs (sgn j).2, (sgn j).2.length + ((tabU m).getD ((sgn j).1.length - 1) zU).total⟩ (tabU m))] < 36 - j := by
          intro h
          refine ⟨⟨j + 1, by rw [hstep, better_if hyes h], by omega⟩, ?_⟩
          simp only [Dwm, List.getD_cons_zero, asInt_int]; omega
        have leave : ¬ ((sgn j).2.length + ((tabU m).getD ((sgn j).1.length - 1) zU).total < (foldU r m j).total ∨ ((sgn j).2.length + ((tabU m).getD ((sgn j).1.length - 1) zU).total = (foldU r m j).total ∧ (foldU r m j).size < (sgn j).1.length)) →
            DwI l r m i [.int ((j + 1 : Nat) : Int), unitsT (tri i (foldU r m j) (tabU m))] ∧ Dwm [.int ((j + 1 : Nat) : Int), unitsT (tri i (foldU r m j) (tabU m))] < 36 - j := by
          intro h
          refine ⟨⟨j + 1, by rw [hstep, better_not h], by omega⟩, ?_⟩
          simp only [Dwm, List.getD_cons_zero, asInt_int]; omega
        repeat' (first
          | exact take (by omega)
          | exact leave (by omega)
          | (refine ⟨by omega, ?_⟩)
          | (refine ⟨fun _ => ?_, fun _ => ?_⟩)
          | (refine ⟨?_, ?_⟩))
    · have : j = 36 := by omega
      subst this
      refine ⟨⟨i, ?_, by omega⟩, ?_⟩
      · rw [hdl, foldU_all]
        rfl
      · simp only [Dvm, List.getD_cons_zero, asInt_int]; omega
  · have : k = 0 := by omega
    subst this
    exact hfin _ rfl)) rfl
end Go.Proofs.YtbeelajedknohaaDoor
