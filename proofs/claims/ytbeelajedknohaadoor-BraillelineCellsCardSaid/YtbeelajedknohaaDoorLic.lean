/- The contract of the reference's Of; the example; the law of Cell and Glyph. -/
import Derived.Test.YtbeelajedknohaaDoorLib
import Derived.Test.YtbeelajedknohaaDoorLip
import Derived.Test.YtbeelajedknohaaDoorCu
namespace Go.Proofs.YtbeelajedknohaaDoor
set_option linter.unusedSimpArgs false
set_option linter.unusedVariables false
set_option linter.unusedSectionVars false

theorem brT_true' (l : List Gl) : brT l true = .agg [ints (cellsOf (transZ (runesW l))), ints ((fromZ 0 (transZ (runesW l))).map (ownF (srcG ng 0 l)) ++ [(l.length : Int)])] := rfl
def rofL : Law := ⟨fun ts => ∃ (l : List Gl) (k : Bool), ts = [glsT l, .bool k] ∧ ((wordG l).length ≤ 1000000 ∧ l.length ≤ 1000000 ∧ VG l), fun ts z₀ => ∀ (l : List Gl) (k : Bool), ts = [glsT l, .bool k] → z₀ = brT l k⟩
theorem rof_pre {l : List Gl} {k : Bool} (h : (wordG l).length ≤ 1000000 ∧ l.length ≤ 1000000 ∧ VG l) : rofL.pre [glsT l, .bool k] := ⟨l, k, rfl, h⟩
theorem rof_fin {l : List Gl} {k : Bool} {z₀ : TV} (h : z₀ = brT l k) : rofL.post [glsT l, .bool k] z₀ := fun l₁ k₁ e => by
  simp only [List.cons.injEq, TV.str.injEq, TV.int.injEq, TV.bool.injEq, TV.agg.injEq, TV.list.injEq, ints_eq, and_true, true_and, and_assoc, glsT_eq] at e; obtain ⟨rfl, rfl⟩ := e
  exact h
theorem rof_all {l : List Gl} {k : Bool} {Q : TV → Prop} : (∀ z₀, rofL.post [glsT l, .bool k] z₀ → Q z₀) ↔ Q (brT l k) := ⟨fun h => h _ (rof_fin rfl), fun h z₀ hr => by rw [hr _ _ rfl]; exact h⟩
theorem rof_c (k : Nat) : Contract Tryd.prog (mkEnv globT []) gtab (sn_ref53_Of k) rofL.pre rofL.post := Contract.env (Γ := mkEnv globT [charsL, cellsL, rtransL]) (contract_ref53_Of (fun _ => rfl) (fun s hs => by
    simp only [cx_ref53_Of, List.mem_cons, List.not_mem_nil, or_false] at hs
    rcases hs with rfl | rfl | rfl
    · exact Contract.inEnv rfl (refChars_c 0) rfl
    · exact Contract.inEnv rfl (refCells_c 1) rfl
    · exact Contract.inEnv rfl (rtrans_c 2) rfl) k (by
  rintro ts hl ⟨l, k, rfl, hp⟩
  have hfin : ∀ z₀ : TV, z₀ = brT l k → rofL.post [glsT l, .bool k] z₀ := fun z₀ h => rof_fin h
  generalize rofL.post [glsT l, .bool k] = R at hfin ⊢
  unfold tr_ref53_Of
  obtain ⟨hw, hn, hv⟩ := hp
  have hcb := cellsG_bd l
  have hsb := srcC_len l 0
  have hob := own_len l 0
  cases k with
  | false =>
    simp only [Tree.den, E.den, P1.den, P2.den, P3.den, List.map_cons, List.map_nil, List.cons_append, List.nil_append, List.getD_cons_zero, List.getD_cons_succ, List.getElem?_cons_zero, List.getElem?_cons_succ, asInt_int, asBool_bool, asStr_str, asList_list, cells_agg, TV.cell, pre_zero, pre_succ, post_zero, post_succ, decide_eq_true_eq, decide_eq_false_iff_not, beq_iff_eq, beq_eq_false_iff_ne, Bool.not_eq_true', Bool.not_eq_false', ne_eq, List.length_cons, List.length_nil, forall_eq, Bool.false_eq_true, Bool.true_eq_false, Int.reduceToNat, Option.some.injEq, exists_eq_left', glsT_len, glsT_asList]
    refine ⟨fun _ => ?_, fun h => (by simp at h)⟩
    refine ⟨OaI l, Oam l, ⟨0, [], [], rfl, by omega, by rw [List.drop_zero]; rfl, by rw [List.drop_zero]; rfl⟩, ?_⟩
    rintro xs _ ⟨k, c, s, rfl, hk, hc, hs⟩
    have hD : Oam l [.int (k : Int), ints c, ints s] = l.length - k := rfl
    have hcl := congrArg List.length hc
    have hsl := congrArg List.length hs
    rw [List.length_append] at hcl hsl
    have hsb' : (srcC 0 l).length = (cellsG l).length := hsb
    simp only [Tree.den, E.den, P1.den, P2.den, P3.den, List.map_cons, List.map_nil, List.cons_append, List.nil_append, List.getD_cons_zero, List.getD_cons_succ, List.getElem?_cons_zero, List.getElem?_cons_succ, asInt_int, asBool_bool, asStr_str, asList_list, cells_agg, TV.cell, pre_zero, pre_succ, post_zero, post_succ, decide_eq_true_eq, decide_eq_false_iff_not, beq_iff_eq, beq_eq_false_iff_ne, Bool.not_eq_true', Bool.not_eq_false', ne_eq, List.length_cons, List.length_nil, forall_eq, Bool.false_eq_true, Bool.true_eq_false, Int.reduceToNat, Option.some.injEq, exists_eq_left', ints_asList, map_snoc, map_app, list_map, ints_nil, ints_get, ints_len, bs_get, Int.toNat_natCast, List.length_append, List.length_map, bs_length, hD, cells_all]
    refine ⟨fun hlt => ?_, fun hlt => ?_⟩
    · have hkl : k < l.length := by omega
      have hd := gls_drop hkl
      rw [hd, cellsG_cons] at hc
      rw [hd, srcC_cons] at hs
      have hwk : (gg l k).s.length ≤ (wordG l).length := by
        have e : wordG l = wordG (l.take k) ++ ((gg l k).s ++ wordG (l.drop (k + 1))) := by
          rw [← wordG_cons, ← hd]
          unfold wordG
          rw [← List.flatMap_append, List.take_append_drop]
        rw [e]
        simp only [List.length_append]
        omega
      have hcl := congrArg List.length hc
      have hsl := congrArg List.length hs
      simp only [List.length_append, List.length_replicate] at hcl hsl
      simp only [gls_get hkl, glT, Tree.den, E.den, P1.den, P2.den, P3.den, List.map_cons, List.map_nil, List.cons_append, List.nil_append, List.getD_cons_zero, List.getD_cons_succ, List.getElem?_cons_zero, List.getElem?_cons_succ, asInt_int, asBool_bool, asStr_str, asList_list, cells_agg, TV.cell, pre_zero, pre_succ, post_zero, post_succ, decide_eq_true_eq, decide_eq_false_iff_not, beq_iff_eq, beq_eq_false_iff_ne, Bool.not_eq_true', Bool.not_eq_false', ne_eq, List.length_cons, List.length_nil, forall_eq, Bool.false_eq_true, Bool.true_eq_false, Int.reduceToNat, Option.some.injEq, exists_eq_left', cells_all]
      simp only [Tree.den, E.den, P1.den, P2.den, P3.den, List.map_cons, List.map_nil, List.cons_append, List.nil_append, List.getD_cons_zero, List.getD_cons_succ, List.getElem?_cons_zero, List.getElem?_cons_succ, asInt_int, asBool_bool, asStr_str, asList_list, cells_agg, TV.cell, pre_zero, pre_succ, post_zero, post_succ, decide_eq_true_eq, decide_eq_false_iff_not, beq_iff_eq, beq_eq_false_iff_ne, Bool.not_eq_true', Bool.not_eq_false', ne_eq, List.length_cons, List.length_nil, forall_eq, Bool.false_eq_true, Bool.true_eq_false, Int.reduceToNat, Option.some.injEq, exists_eq_left', ints_asList, map_snoc, map_app, list_map, ints_nil, ints_get, ints_len, bs_get, Int.toNat_natCast, List.length_append, List.length_map, bs_length]
      have hg : cellsZ (Go.Proofs.YtbeelajedknohaaDoor.fin (bs (gg l k).s)) = cg (gg l k) := rfl
      rw [hg]
      generalize cg (gg l k) = g at *
      refine ⟨by omega, by omega, cells_pre (by omega), OiI c s g k, Oim g, ⟨0, by simp, by omega⟩, ?_⟩
      rintro ys _ ⟨j, rfl, hj⟩
      have hE : ∀ y z, Oim g [.int (j : Int), y, z] = g.length - j := fun y z => rfl
      have ej : IntKind.wrap .i64 ((j : Int) + 1) = ((j + 1 : Nat) : Int) := by rw [wrap_i64 (n := (j : Int) + 1) (by omega) (by omega)]; omega
      have ek : IntKind.wrap .i64 ((k : Int) + 1) = ((k + 1 : Nat) : Int) := by rw [wrap_i64 (n := (k : Int) + 1) (by omega) (by omega)]; omega
      simp only [Tree.den, E.den, P1.den, P2.den, P3.den, List.map_cons, List.map_nil, List.cons_append, List.nil_append, List.getD_cons_zero, List.getD_cons_succ, List.getElem?_cons_zero, List.getElem?_cons_succ, asInt_int, asBool_bool, asStr_str, asList_list, cells_agg, TV.cell, pre_zero, pre_succ, post_zero, post_succ, decide_eq_true_eq, decide_eq_false_iff_not, beq_iff_eq, beq_eq_false_iff_ne, Bool.not_eq_true', Bool.not_eq_false', ne_eq, List.length_cons, List.length_nil, forall_eq, Bool.false_eq_true, Bool.true_eq_false, Int.reduceToNat, Option.some.injEq, exists_eq_left', ints_asList, map_snoc, map_app, list_map, ints_nil, ints_get, ints_len, bs_get, Int.toNat_natCast, List.length_append, List.length_map, bs_length, hE, ej, ek, rep_snoc, List.length_replicate, List.length_take]
      refine ⟨fun hlj => ?_, fun hlj => ⟨⟨k + 1, _, _, rfl, by omega, ?_, ?_⟩, ?_⟩⟩
      · refine ⟨by omega, by omega, by omega, by omega, ⟨j + 1, ?_, by omega⟩, ?_⟩
        · rw [List.append_assoc, tk_snoc (by omega)]
        · simp only [Oim, List.getD_cons_zero, asInt_int]; omega
      · have : j = g.length := by omega
        rw [this, List.take_length, hc, List.append_assoc]
      · have : j = g.length := by omega
        rw [this, hs, List.append_assoc]
      · simp only [Oam, List.getD_cons_zero, asInt_int]; omega
    · have : k = l.length := by omega
      subst this
      rw [List.drop_of_length_le (Nat.le_refl _)] at hc hs
      refine ⟨by omega, hfin _ ?_⟩
      rw [brT_false, hc, hs]
      simp [cellsG, srcC, srcG]
  | true =>
    simp only [Tree.den, E.den, P1.den, P2.den, P3.den, List.map_cons, List.map_nil, List.cons_append, List.nil_append, List.getD_cons_zero, List.getD_cons_succ, List.getElem?_cons_zero, List.getElem?_cons_succ, asInt_int, asBool_bool, asStr_str, asList_list, cells_agg, TV.cell, pre_zero, pre_succ, post_zero, post_succ, decide_eq_true_eq, decide_eq_false_iff_not, beq_iff_eq, beq_eq_false_iff_ne, Bool.not_eq_true', Bool.not_eq_false', ne_eq, List.length_cons, List.length_nil, forall_eq, Bool.false_eq_true, Bool.true_eq_false, Int.reduceToNat, Option.some.injEq, exists_eq_left', glsT_len, glsT_asList]
    refine ⟨fun h => (by simp at h), fun _ => ?_⟩
    refine ⟨ObI l, Obm l, ⟨[], 0, [], rfl, by omega, by rw [List.drop_zero]; rfl, by rw [List.drop_zero]; rfl⟩, ?_⟩
    rintro xs _ ⟨t, k, o, rfl, hk, ht, ho⟩
    have hD : Obm l [.str t, .int (k : Int), ints o] = l.length - k := rfl
    have htl := congrArg List.length ht
    have hol := congrArg List.length ho
    rw [List.length_append] at htl hol
    simp only [Tree.den, E.den, P1.den, P2.den, P3.den, List.map_cons, List.map_nil, List.cons_append, List.nil_append, List.getD_cons_zero, List.getD_cons_succ, List.getElem?_cons_zero, List.getElem?_cons_succ, asInt_int, asBool_bool, asStr_str, asList_list, cells_agg, TV.cell, pre_zero, pre_succ, post_zero, post_succ, decide_eq_true_eq, decide_eq_false_iff_not, beq_iff_eq, beq_eq_false_iff_ne, Bool.not_eq_true', Bool.not_eq_false', ne_eq, List.length_cons, List.length_nil, forall_eq, Bool.false_eq_true, Bool.true_eq_false, Int.reduceToNat, Option.some.injEq, exists_eq_left', ints_asList, map_snoc, map_app, list_map, ints_nil, ints_get, ints_len, bs_get, Int.toNat_natCast, List.length_append, List.length_map, bs_length, hD]
    refine ⟨fun hlt => ?_, fun hlt => ?_⟩
    · have hkl : k < l.length := by omega
      have hd := gls_drop hkl
      rw [hd, wordG_cons] at ht
      rw [hd, srcG_cons] at ho
      have htl := congrArg List.length ht
      have hol := congrArg List.length ho
      simp only [List.length_append, List.length_replicate] at htl hol
      simp only [gls_get hkl, glT, Tree.den, E.den, P1.den, P2.den, P3.den, List.map_cons, List.map_nil, List.cons_append, List.nil_append, List.getD_cons_zero, List.getD_cons_succ, List.getElem?_cons_zero, List.getElem?_cons_succ, asInt_int, asBool_bool, asStr_str, asList_list, cells_agg, TV.cell, pre_zero, pre_succ, post_zero, post_succ, decide_eq_true_eq, decide_eq_false_iff_not, beq_iff_eq, beq_eq_false_iff_ne, Bool.not_eq_true', Bool.not_eq_false', ne_eq, List.length_cons, List.length_nil, forall_eq, Bool.false_eq_true, Bool.true_eq_false, Int.reduceToNat, Option.some.injEq, exists_eq_left', chars_all]
      simp only [Tree.den, E.den, P1.den, P2.den, P3.den, List.map_cons, List.map_nil, List.cons_append, List.nil_append, List.getD_cons_zero, List.getD_cons_succ, List.getElem?_cons_zero, List.getElem?_cons_succ, asInt_int, asBool_bool, asStr_str, asList_list, cells_agg, TV.cell, pre_zero, pre_succ, post_zero, post_succ, decide_eq_true_eq, decide_eq_false_iff_not, beq_iff_eq, beq_eq_false_iff_ne, Bool.not_eq_true', Bool.not_eq_false', ne_eq, List.length_cons, List.length_nil, forall_eq, Bool.false_eq_true, Bool.true_eq_false, Int.reduceToNat, Option.some.injEq, exists_eq_left', ints_asList, map_snoc, map_app, list_map, ints_nil, ints_get, ints_len, bs_get, Int.toNat_natCast, List.length_append, List.length_map, bs_length]
      have hg : (Go.Proofs.YtbeelajedknohaaDoor.fin (bs (gg l k).s)).length = ng (gg l k) := rfl
      rw [hg]
      have hnb : ng (gg l k) ≤ (gg l k).s.length := fin_len' _
      generalize ng (gg l k) = g at *
      refine ⟨by omega, by omega, by omega, by omega, by omega, chars_pre (by omega), OwI o g k, Owm g, ⟨0, by simp, by omega⟩, ?_⟩
      rintro ys _ ⟨j, rfl, hj⟩
      have hE : ∀ z, Owm g [.int (j : Int), z] = g - j := fun z => rfl
      have ej : IntKind.wrap .i64 ((j : Int) + 1) = ((j + 1 : Nat) : Int) := by rw [wrap_i64 (n := (j : Int) + 1) (by omega) (by omega)]; omega
      have ek : IntKind.wrap .i64 ((k : Int) + 1) = ((k + 1 : Nat) : Int) := by rw [wrap_i64 (n := (k : Int) + 1) (by omega) (by omega)]; omega
      simp only [Tree.den, E.den, P1.den, P2.den, P3.den, List.map_cons, List.map_nil, List.cons_append, List.nil_append, List.getD_cons_zero, List.getD_cons_succ, List.getElem?_cons_zero, List.getElem?_cons_succ, asInt_int, asBool_bool, asStr_str, asList_list, cells_agg, TV.cell, pre_zero, pre_succ, post_zero, post_succ, decide_eq_true_eq, decide_eq_false_iff_not, beq_iff_eq, beq_eq_false_iff_ne, Bool.not_eq_true', Bool.not_eq_false', ne_eq, List.length_cons, List.length_nil, forall_eq, Bool.false_eq_true, Bool.true_eq_false, Int.reduceToNat, Option.some.injEq, exists_eq_left', ints_asList, map_snoc, map_app, list_map, ints_nil, ints_get, ints_len, bs_get, Int.toNat_natCast, List.length_append, List.length_map, bs_length, hE, ej, ek, rep_snoc, List.length_replicate]
      refine ⟨fun hlj => ⟨by omega, ⟨j + 1, rfl, by omega⟩, ?_⟩, fun hlj => ⟨⟨_, k + 1, _, rfl, by omega, ?_, ?_⟩, ?_⟩⟩
      · simp only [Owm, List.getD_cons_zero, asInt_int]; omega
      · rw [ht, List.append_assoc]
      · have : j = g := by omega
        rw [this, ho, List.append_assoc]
      · simp only [Obm, List.getD_cons_zero, List.getD_cons_succ, asInt_int]; omega
    · have : k = l.length := by omega
      subst this
      rw [List.drop_of_length_le (Nat.le_refl _)] at ht ho
      have ht' : t = wordG l := by rw [ht]; simp [wordG]
      have ho' : o = srcG ng 0 l := by rw [ho]; simp [srcG]
      subst ht' ho'
      have hr : Go.Proofs.YtbeelajedknohaaDoor.fin (bs (wordG l)) = runesW l := rfl
      have htb := tot_bd (runesW l)
      have hrl := runesW_len l
      have htr := trans_len (runesW l)
      have hfr := fromZ_len (transZ (runesW l)) 0
      have hfm := from_in hv
      rw [brT_true] at hfin
      simp only [Tree.den, E.den, P1.den, P2.den, P3.den, List.map_cons, List.map_nil, List.cons_append, List.nil_append, List.getD_cons_zero, List.getD_cons_succ, List.getElem?_cons_zero, List.getElem?_cons_succ, asInt_int, asBool_bool, asStr_str, asList_list, cells_agg, TV.cell, pre_zero, pre_succ, post_zero, post_succ, decide_eq_true_eq, decide_eq_false_iff_not, beq_iff_eq, beq_eq_false_iff_ne, Bool.not_eq_true', Bool.not_eq_false', ne_eq, List.length_cons, List.length_nil, forall_eq, Bool.false_eq_true, Bool.true_eq_false, Int.reduceToNat, Option.some.injEq, exists_eq_left', rtrans_all, hr, transT]
      simp only [Tree.den, E.den, P1.den, P2.den, P3.den, List.map_cons, List.map_nil, List.cons_append, List.nil_append, List.getD_cons_zero, List.getD_cons_succ, List.getElem?_cons_zero, List.getElem?_cons_succ, asInt_int, asBool_bool, asStr_str, asList_list, cells_agg, TV.cell, pre_zero, pre_succ, post_zero, post_succ, decide_eq_true_eq, decide_eq_false_iff_not, beq_iff_eq, beq_eq_false_iff_ne, Bool.not_eq_true', Bool.not_eq_false', ne_eq, List.length_cons, List.length_nil, forall_eq, Bool.false_eq_true, Bool.true_eq_false, Int.reduceToNat, Option.some.injEq, exists_eq_left', ints_asList, map_snoc, map_app, list_map, ints_nil, ints_get, ints_len, bs_get, Int.toNat_natCast, List.length_append, List.length_map, bs_length]
      generalize cellsOf (transZ (runesW l)) = c at *
      generalize fromZ 0 (transZ (runesW l)) = f at *
      generalize srcG ng 0 l = o at *
      refine ⟨rtrans_pre hw, OcI c f o, Ocm c, ⟨0, by simp, by omega⟩, ?_⟩
      rintro ys _ ⟨j, rfl, hj⟩
      have hE : ∀ y z, Ocm c [.int (j : Int), y, z] = c.length - j := fun y z => rfl
      have ej : IntKind.wrap .i64 ((j : Int) + 1) = ((j + 1 : Nat) : Int) := by rw [wrap_i64 (n := (j : Int) + 1) (by omega) (by omega)]; omega
      simp only [Tree.den, E.den, P1.den, P2.den, P3.den, List.map_cons, List.map_nil, List.cons_append, List.nil_append, List.getD_cons_zero, List.getD_cons_succ, List.getElem?_cons_zero, List.getElem?_cons_succ, asInt_int, asBool_bool, asStr_str, asList_list, cells_agg, TV.cell, pre_zero, pre_succ, post_zero, post_succ, decide_eq_true_eq, decide_eq_false_iff_not, beq_iff_eq, beq_eq_false_iff_ne, Bool.not_eq_true', Bool.not_eq_false', ne_eq, List.length_cons, List.length_nil, forall_eq, Bool.false_eq_true, Bool.true_eq_false, Int.reduceToNat, Option.some.injEq, exists_eq_left', ints_asList, map_snoc, map_app, list_map, ints_nil, ints_get, ints_len, bs_get, Int.toNat_natCast, List.length_append, List.length_map, bs_length, hE, ej, List.length_take]
      refine ⟨fun hlj => ?_, fun hlj => ?_⟩
      · have hjc : j < c.length := by omega
        have hjf : j < f.length := by omega
        have hpm := hfm _ (gdmem hjf)
        have hmg := map_own_get (o := o) hjf
        have hts := tk_snoc (l := c) hjc
        have htf := tk_snoc (l := f.map (ownF o)) (j := j) (by rw [List.length_map]; exact hjf)
        rw [hmg] at htf
        have hgo : ∀ x, x = ownF o (f.getD j 0) → OcI c f o [.int ((j + 1 : Nat) : Int), ints (c.take j ++ [c.getD j 0]), ints ((f.map (ownF o)).take j ++ [x])] ∧ Ocm c [.int ((j + 1 : Nat) : Int), ints (c.take j ++ [c.getD j 0]), ints ((f.map (ownF o)).take j ++ [x])] < c.length - j := fun x hx => by
          subst hx
          refine ⟨⟨j + 1, by rw [hts, htf], by omega⟩, ?_⟩
          simp only [Ocm, List.getD_cons_zero, asInt_int]; omega
        exact ⟨by omega, by omega, by omega, by omega, by omega, by omega, by omega, by omega, hgo _ rfl⟩
      · have : j = c.length := by omega
        subst this
        rw [List.take_length] at *
        refine ⟨by omega, hfin _ ?_⟩
        rw [List.take_of_length_le (by rw [List.length_map]; omega)])) rfl

def setT (k : Bool) : TV := .agg [.int 100, .bool false, .bool false, .int 0, .bool k, .int 40]
def settL : Law := ⟨fun ts => ∃ (k : Bool), ts = [.bool k] ∧ (True), fun ts z₀ => ∀ (k : Bool), ts = [.bool k] → z₀ = setT k⟩
theorem sett_pre {k : Bool} (h : True) : settL.pre [.bool k] := ⟨k, rfl, h⟩
theorem sett_fin {k : Bool} {z₀ : TV} (h : z₀ = setT k) : settL.post [.bool k] z₀ := fun k₁ e => by
  simp only [List.cons.injEq, TV.str.injEq, TV.int.injEq, TV.bool.injEq, TV.agg.injEq, TV.list.injEq, ints_eq, and_true, true_and, and_assoc] at e; subst e
  exact h
theorem sett_all {k : Bool} {Q : TV → Prop} : (∀ z₀, settL.post [.bool k] z₀ → Q z₀) ↔ Q (setT k) := ⟨fun h => h _ (sett_fin rfl), fun h z₀ hr => by rw [hr _ rfl]; exact h⟩
theorem sett_c (k : Nat) : Contract Tryd.prog (mkEnv globT []) gtab (sn_law53_settings k) settL.pre settL.post := Contract.env (Γ := mkEnv globT []) (contract_law53_settings (fun _ => rfl) (fun s hs => by
    cases hs) k (by
  rintro ts hl ⟨k, rfl, hp⟩
  have hfin : ∀ z₀ : TV, z₀ = setT k → settL.post [.bool k] z₀ := fun z₀ h => sett_fin h
  generalize settL.post [.bool k] = R at hfin ⊢
  unfold tr_law53_settings
  simp only [Tree.den, E.den, P1.den, P2.den, P3.den, List.map_cons, List.map_nil, List.cons_append, List.nil_append, List.getD_cons_zero, List.getD_cons_succ, List.getElem?_cons_zero, List.getElem?_cons_succ, asInt_int, asBool_bool, asStr_str, asList_list, cells_agg, TV.cell, pre_zero, pre_succ, post_zero, post_succ, decide_eq_true_eq, decide_eq_false_iff_not, beq_iff_eq, beq_eq_false_iff_ne, Bool.not_eq_true', Bool.not_eq_false', ne_eq, List.length_cons, List.length_nil, forall_eq, Bool.false_eq_true, Bool.true_eq_false, Int.reduceToNat, Option.some.injEq, exists_eq_left']
  exact hfin _ rfl)) rfl
theorem PL_ex : PL [1, 3] [0, 1, 2] := ⟨rfl, by decide, fun i hi => by
  match i with
  | 0 => decide
  | 1 => decide
  | n + 2 => exact absurd hi (by simp)⟩
def awakeL : Law := ⟨fun ts => ts = [], fun ts z₀ => ts = [] → z₀ = .bool true⟩
theorem awake_pre : awakeL.pre [] := rfl
theorem awake_fin {z₀ : TV} (h : z₀ = .bool true) : awakeL.post [] z₀ := fun _ => h
theorem awake_all {Q : TV → Prop} : (∀ z₀, awakeL.post [] z₀ → Q z₀) ↔ Q (.bool true) := ⟨fun h => h _ fun _ => rfl, fun h z₀ hr => by rw [hr rfl]; exact h⟩
theorem awake_c (k : Nat) : Contract Tryd.prog (mkEnv globT []) gtab (sn_law53_awake k) awakeL.pre awakeL.post := Contract.env (Γ := mkEnv globT [ofL, bcellL, bglyphL, lsameL]) (contract_law53_awake (fun _ => rfl) (fun s hs => by
    simp only [cx_law53_awake, List.mem_cons, List.not_mem_nil, or_false] at hs
    rcases hs with rfl | rfl | rfl | rfl
    · exact Contract.inEnv rfl (of_c 0) rfl
    · exact Contract.inEnv rfl (bcell_c 1) rfl
    · exact Contract.inEnv rfl (bglyph_c 2) rfl
    · exact Contract.inEnv rfl (lsame_c 3) rfl) k (by
  rintro ts hl rfl
  have hfin : ∀ z₀ : TV, z₀ = .bool true → awakeL.post [] z₀ := fun z₀ h => awake_fin h
  generalize awakeL.post [] = R at hfin ⊢
  unfold tr_law53_awake
  have l1 : TV.list [.agg [.str [97], .bool false, .int 0], .agg [.str [98], .bool false, .int 0]] = glsT [⟨[97], false, 0⟩, ⟨[98], false, 0⟩] := rfl
  have l2 : TV.list [.int 1, .int 3] = ints [1, 3] := rfl
  have l3 : TV.list [.int 0, .int 1, .int 2] = ints [0, 1, 2] := rfl
  have b1 : brC [⟨[97], false, 0⟩, ⟨[98], false, 0⟩] false = [1, 3] := by decide +kernel
  have b2 : brS [⟨[97], false, 0⟩, ⟨[98], false, 0⟩] false = [0, 1, 2] := by decide +kernel
  have hb : brT [⟨[97], false, 0⟩, ⟨[98], false, 0⟩] false = .agg [ints [1, 3], ints [0, 1, 2]] := by unfold brT lineT; rw [b1, b2]
  have h5 : cellAt [1, 3] [0, 1, 2] 5 = 5 := by
    unfold cellAt
    rw [if_neg (by rintro (h | h | h) <;> first | exact h PL_ex | omega), if_pos (by decide)]
    rfl
  have h1 : glyphAt [1, 3] [0, 1, 2] 1 = 1 := by
    unfold glyphAt
    rw [if_neg (by rintro (h | h | h) <;> first | exact h PL_ex | omega), if_pos (by decide)]
    rfl
  simp only [Tree.den, E.den, P1.den, P2.den, P3.den, List.map_cons, List.map_nil, List.cons_append, List.nil_append, List.getD_cons_zero, List.getD_cons_succ, List.getElem?_cons_zero, List.getElem?_cons_succ, asInt_int, asBool_bool, asStr_str, asList_list, cells_agg, TV.cell, pre_zero, pre_succ, post_zero, post_succ, decide_eq_true_eq, decide_eq_false_iff_not, beq_iff_eq, beq_eq_false_iff_ne, Bool.not_eq_true', Bool.not_eq_false', ne_eq, List.length_cons, List.length_nil, forall_eq, Bool.false_eq_true, Bool.true_eq_false, Int.reduceToNat, Option.some.injEq, exists_eq_left', l1, l2, l3, of_all, hb, lsame_all, bcell_all, bglyph_all, h5, h1]
  refine ⟨of_pre ⟨by decide, by decide⟩, lsame_pre ⟨by decide, by decide⟩, fun _ => ⟨bcell_pre ⟨by decide, by decide⟩, fun _ => ⟨bglyph_pre ⟨by decide, by decide⟩, hfin _ rfl⟩, fun h => absurd trivial h⟩, fun h => absurd h (by simp)⟩)) rfl

/-! ### The law of Cell and Glyph -/
def lineIntP (ts : List TV) : Prop := ∃ (c s : List Int) (n : Int), ts = [.agg [ints c, ints s], .int n]
theorem lineIntP_of {k k' k2 : IntKind} {t0 t1 : TV} (h0 : OkA true [.slice false [.int k], .slice false [.int k']] t0) (h1 : OkA false [.int k2] t1) : lineIntP [t0, t1] := by
  obtain ⟨c, s, rfl, _, _⟩ := h0.line
  obtain ⟨n, rfl, _, _⟩ := h1.int
  exact ⟨c, s, n, rfl⟩
theorem lawCells_c (k : Nat) : Contract Tryd.prog (mkEnv globT []) gtab (sn_law53_BraillelineCells k) (trueL lineIntP).pre (trueL lineIntP).post := Contract.env (Γ := mkEnv globT [bcellL, bglyphL, rcellL, rglyphL, awakeL]) (contract_law53_BraillelineCells (fun _ => rfl) (fun s hs => by
    simp only [cx_law53_BraillelineCells, List.mem_cons, List.not_mem_nil, or_false] at hs
    rcases hs with rfl | rfl | rfl | rfl | rfl
    · exact Contract.inEnv rfl (bcell_c 0) rfl
    · exact Contract.inEnv rfl (bglyph_c 1) rfl
    · exact Contract.inEnv rfl (rcell_c 2) rfl
    · exact Contract.inEnv rfl (rglyph_c 3) rfl
    · exact Contract.inEnv rfl (awake_c 4) rfl) k (by
  rintro ts hl ⟨c, s, n, rfl⟩
  unfold tr_law53_BraillelineCells
  simp only [Tree.den, E.den, P1.den, P2.den, P3.den, List.map_cons, List.map_nil, List.cons_append, List.nil_append, List.getD_cons_zero, List.getD_cons_succ, List.getElem?_cons_zero, List.getElem?_cons_succ, asInt_int, asBool_bool, asStr_str, asList_list, cells_agg, TV.cell, pre_zero, pre_succ, post_zero, post_succ, decide_eq_true_eq, decide_eq_false_iff_not, beq_iff_eq, beq_eq_false_iff_ne, Bool.not_eq_true', Bool.not_eq_false', ne_eq, List.length_cons, List.length_nil, forall_eq, Bool.false_eq_true, Bool.true_eq_false, Int.reduceToNat, Option.some.injEq, exists_eq_left', awake_all, bcell_all, bglyph_all, rcell_all, rglyph_all]
  simp only [Tree.den, E.den, P1.den, P2.den, P3.den, List.map_cons, List.map_nil, List.cons_append, List.nil_append, List.getD_cons_zero, List.getD_cons_succ, List.getElem?_cons_zero, List.getElem?_cons_succ, asInt_int, asBool_bool, asStr_str, asList_list, cells_agg, TV.cell, pre_zero, pre_succ, post_zero, post_succ, decide_eq_true_eq, decide_eq_false_iff_not, beq_iff_eq, beq_eq_false_iff_ne, Bool.not_eq_true', Bool.not_eq_false', ne_eq, List.length_cons, List.length_nil, forall_eq, Bool.false_eq_true, Bool.true_eq_false, Int.reduceToNat, Option.some.injEq, exists_eq_left', ints_asList, map_snoc, map_app, list_map, ints_nil, ints_get, ints_len, bs_get, Int.toNat_natCast, List.length_append, List.length_map, bs_length, awake_all, bcell_all, bglyph_all, rcell_all, rglyph_all]
  exact ⟨fun _ => ⟨awake_pre, rfl⟩, fun h1 => ⟨fun _ => ⟨awake_pre, rfl⟩, fun h2 => ⟨bcell_pre ⟨by omega, by omega⟩, rcell_pre ⟨by omega, by omega⟩, fun _ => ⟨bglyph_pre ⟨by omega, by omega⟩, rglyph_pre ⟨by omega, by omega⟩, fun _ => ⟨awake_pre, rfl⟩, fun h => absurd trivial h⟩, fun h => absurd trivial h⟩⟩⟩)) rfl
end Go.Proofs.YtbeelajedknohaaDoor
