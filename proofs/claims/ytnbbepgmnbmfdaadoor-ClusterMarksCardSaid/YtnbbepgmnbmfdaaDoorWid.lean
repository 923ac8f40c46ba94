/- The contracts of package charwidth, and of its reference. -/
import Derived.Test.YtnbbepgmnbmfdaaDoorW1
import Derived.Test.YtnbbepgmnbmfdaaDoorUs
namespace Go.Proofs.YtnbbepgmnbmfdaaDoor
set_option linter.unusedSimpArgs false
set_option linter.unusedVariables false
set_option linter.unusedSectionVars false

def tabT (l : List (Int × Int)) : TV := .list (l.map fun p => .agg [.int p.1, .int p.2])
def tg (l : List (Int × Int)) (i : Nat) : Int × Int := l.getD i (0, 0)
theorem tab_get {l : List (Int × Int)} {i : Nat} (h : i < l.length) : (tabT l).asList.getD i (.int 0) = .agg [.int (tg l i).1, .int (tg l i).2] := by
  unfold tabT tg
  rw [asList_list, List.getD_eq_getElem?_getD, List.getElem?_map, List.getD_eq_getElem?_getD, List.getElem?_eq_getElem h]
  rfl
theorem tab_len (l : List (Int × Int)) : (tabT l).asList.length = l.length := by unfold tabT; rw [asList_list, List.length_map]
theorem tab_inj {l m : List (Int × Int)} (h : tabT l = tabT m) : l = m := by
  unfold tabT at h
  simp only [TV.list.injEq] at h
  have := congrArg (List.map fun t : TV => ((t.cell 0).asInt, (t.cell 1).asInt)) h
  simpa [List.map_map, Function.comp_def, TV.cell, TV.cells, TV.asInt] using this
theorem tab_eq {l m : List (Int × Int)} : tabT l = tabT m ↔ l = m := ⟨tab_inj, fun h => by rw [h]⟩
def marksL' : List (Int × Int) := [(768, 879), (6832, 6911), (7616, 7679), (8203, 8207), (8400, 8447), (65024, 65039), (65056, 65071)]
def wideL' : List (Int × Int) := [(4352, 4447), (11904, 12350), (12353, 13311), (13312, 19903), (19968, 40959), (40960, 42191), (44032, 55203), (63744, 64255), (65072, 65135), (65280, 65376), (65504, 65510), (127744, 128591), (129280, 129535), (131072, 262141)]
def inTab (l : List (Int × Int)) (r : Int) : Bool := l.any fun p => decide (p.1 ≤ r) && decide (r ≤ p.2)
def markZ (r : Int) : Bool := inTab marksL' r
def widthZ (r : Int) : Int := if r < 32 ∨ (127 ≤ r ∧ r ≤ 159) then -1 else if markZ r then 0 else if inTab wideL' r then 2 else 1

def rmarksL : Law := ⟨fun ts => ts = [], fun ts z₀ => ts = [] → z₀ = tabT marksL'⟩
theorem rmarks_pre : rmarksL.pre [] := rfl
theorem rmarks_fin {z₀ : TV} (h : z₀ = tabT marksL') : rmarksL.post [] z₀ := fun _ => h
theorem rmarks_all {Q : TV → Prop} : (∀ z₀, rmarksL.post [] z₀ → Q z₀) ↔ Q (tabT marksL') := ⟨fun h => h _ fun _ => rfl, fun h z₀ hr => by rw [hr rfl]; exact h⟩
theorem rmarks_c (k : Nat) : Contract Tryd.prog (mkEnv globT []) gtab (sn_ref02_Marks k) rmarksL.pre rmarksL.post := Contract.env (Γ := mkEnv globT []) (contract_ref02_Marks (fun _ => rfl) (fun s hs => by
    cases hs) k (by
  rintro ts hl rfl
  have hfin : ∀ z₀ : TV, z₀ = tabT marksL' → rmarksL.post [] z₀ := fun z₀ h => rmarks_fin h
  generalize rmarksL.post [] = R at hfin ⊢
  unfold tr_ref02_Marks
  simp only [Tree.den, E.den, P1.den, P2.den, P3.den, List.map_cons, List.map_nil, List.cons_append, List.nil_append, List.getD_cons_zero, List.getD_cons_succ, List.getElem?_cons_zero, List.getElem?_cons_succ, asInt_int, asBool_bool, asStr_str, asList_list, cells_agg, TV.cell, pre_zero, pre_succ, post_zero, post_succ, decide_eq_true_eq, decide_eq_false_iff_not, beq_iff_eq, beq_eq_false_iff_ne, Bool.not_eq_true', Bool.not_eq_false', ne_eq, List.length_cons, List.length_nil, forall_eq, Bool.false_eq_true, Bool.true_eq_false, Int.reduceToNat, Option.some.injEq, exists_eq_left']
  exact hfin _ rfl)) rfl
def rwideL : Law := ⟨fun ts => ts = [], fun ts z₀ => ts = [] → z₀ = tabT wideL'⟩
theorem rwide_pre : rwideL.pre [] := rfl
theorem rwide_fin {z₀ : TV} (h : z₀ = tabT wideL') : rwideL.post [] z₀ := fun _ => h
theorem rwide_all {Q : TV → Prop} : (∀ z₀, rwideL.post [] z₀ → Q z₀) ↔ Q (tabT wideL') := ⟨fun h => h _ fun _ => rfl, fun h z₀ hr => by rw [hr rfl]; exact h⟩
theorem rwide_c (k : Nat) : Contract Tryd.prog (mkEnv globT []) gtab (sn_ref02_Wide k) rwideL.pre rwideL.post := Contract.env (Γ := mkEnv globT []) (contract_ref02_Wide (fun _ => rfl) (fun s hs => by
    cases hs) k (by
  rintro ts hl rfl
  have hfin : ∀ z₀ : TV, z₀ = tabT wideL' → rwideL.post [] z₀ := fun z₀ h => rwide_fin h
  generalize rwideL.post [] = R at hfin ⊢
  unfold tr_ref02_Wide
  simp only [Tree.den, E.den, P1.den, P2.den, P3.den, List.map_cons, List.map_nil, List.cons_append, List.nil_append, List.getD_cons_zero, List.getD_cons_succ, List.getElem?_cons_zero, List.getElem?_cons_succ, asInt_int, asBool_bool, asStr_str, asList_list, cells_agg, TV.cell, pre_zero, pre_succ, post_zero, post_succ, decide_eq_true_eq, decide_eq_false_iff_not, beq_iff_eq, beq_eq_false_iff_ne, Bool.not_eq_true', Bool.not_eq_false', ne_eq, List.length_cons, List.length_nil, forall_eq, Bool.false_eq_true, Bool.true_eq_false, Int.reduceToNat, Option.some.injEq, exists_eq_left']
  exact hfin _ rfl)) rfl
def pmarksL : Law := ⟨fun ts => ts = [], fun ts z₀ => ts = [] → z₀ = tabT marksL'⟩
theorem pmarks_pre : pmarksL.pre [] := rfl
theorem pmarks_fin {z₀ : TV} (h : z₀ = tabT marksL') : pmarksL.post [] z₀ := fun _ => h
theorem pmarks_all {Q : TV → Prop} : (∀ z₀, pmarksL.post [] z₀ → Q z₀) ↔ Q (tabT marksL') := ⟨fun h => h _ fun _ => rfl, fun h z₀ hr => by rw [hr rfl]; exact h⟩
theorem pmarks_c (k : Nat) : Contract Tryd.prog (mkEnv globT []) gtab (sn_charwidth_marks k) pmarksL.pre pmarksL.post := Contract.env (Γ := mkEnv globT []) (contract_charwidth_marks (fun _ => rfl) (fun s hs => by
    cases hs) k (by
  rintro ts hl rfl
  have hfin : ∀ z₀ : TV, z₀ = tabT marksL' → pmarksL.post [] z₀ := fun z₀ h => pmarks_fin h
  generalize pmarksL.post [] = R at hfin ⊢
  unfold tr_charwidth_marks
  simp only [Tree.den, E.den, P1.den, P2.den, P3.den, List.map_cons, List.map_nil, List.cons_append, List.nil_append, List.getD_cons_zero, List.getD_cons_succ, List.getElem?_cons_zero, List.getElem?_cons_succ, asInt_int, asBool_bool, asStr_str, asList_list, cells_agg, TV.cell, pre_zero, pre_succ, post_zero, post_succ, decide_eq_true_eq, decide_eq_false_iff_not, beq_iff_eq, beq_eq_false_iff_ne, Bool.not_eq_true', Bool.not_eq_false', ne_eq, List.length_cons, List.length_nil, forall_eq, Bool.false_eq_true, Bool.true_eq_false, Int.reduceToNat, Option.some.injEq, exists_eq_left']
  exact hfin _ rfl)) rfl
def pwideL : Law := ⟨fun ts => ts = [], fun ts z₀ => ts = [] → z₀ = tabT wideL'⟩
theorem pwide_pre : pwideL.pre [] := rfl
theorem pwide_fin {z₀ : TV} (h : z₀ = tabT wideL') : pwideL.post [] z₀ := fun _ => h
theorem pwide_all {Q : TV → Prop} : (∀ z₀, pwideL.post [] z₀ → Q z₀) ↔ Q (tabT wideL') := ⟨fun h => h _ fun _ => rfl, fun h z₀ hr => by rw [hr rfl]; exact h⟩
theorem pwide_c (k : Nat) : Contract Tryd.prog (mkEnv globT []) gtab (sn_charwidth_Wide k) pwideL.pre pwideL.post := Contract.env (Γ := mkEnv globT []) (contract_charwidth_Wide (fun _ => rfl) (fun s hs => by
    cases hs) k (by
  rintro ts hl rfl
  have hfin : ∀ z₀ : TV, z₀ = tabT wideL' → pwideL.post [] z₀ := fun z₀ h => pwide_fin h
  generalize pwideL.post [] = R at hfin ⊢
  unfold tr_charwidth_Wide
  simp only [Tree.den, E.den, P1.den, P2.den, P3.den, List.map_cons, List.map_nil, List.cons_append, List.nil_append, List.getD_cons_zero, List.getD_cons_succ, List.getElem?_cons_zero, List.getElem?_cons_succ, asInt_int, asBool_bool, asStr_str, asList_list, cells_agg, TV.cell, pre_zero, pre_succ, post_zero, post_succ, decide_eq_true_eq, decide_eq_false_iff_not, beq_iff_eq, beq_eq_false_iff_ne, Bool.not_eq_true', Bool.not_eq_false', ne_eq, List.length_cons, List.length_nil, forall_eq, Bool.false_eq_true, Bool.true_eq_false, Int.reduceToNat, Option.some.injEq, exists_eq_left']
  exact hfin _ rfl)) rfl

def inL : Law := ⟨fun ts => ∃ (l : List (Int × Int)) (r : Int), ts = [tabT l, .int r] ∧ l.length ≤ 1000, fun ts x => ∀ (l : List (Int × Int)) (r : Int), ts = [tabT l, .int r] → x = .bool (inTab l r)⟩
theorem in_pre {l : List (Int × Int)} {r : Int} (h : l.length ≤ 1000) : inL.pre [tabT l, .int r] := ⟨l, r, rfl, h⟩
theorem in_fin {l : List (Int × Int)} {r : Int} {x : TV} (h : x = .bool (inTab l r)) : inL.post [tabT l, .int r] x := fun l' r' e => by
  simp only [List.cons.injEq, TV.int.injEq, and_true, tab_eq] at e
  obtain ⟨rfl, rfl⟩ := e
  exact h
theorem in_all {l : List (Int × Int)} {r : Int} {Q : TV → Prop} : (∀ x, inL.post [tabT l, .int r] x → Q x) ↔ Q (.bool (inTab l r)) := ⟨fun h => h _ (in_fin rfl), fun h x hx => by rw [hx _ _ rfl]; exact h⟩
def II (l : List (Int × Int)) (r : Int) (xs : List TV) : Prop := ∃ k : Nat, xs = [.int k] ∧ k ≤ l.length ∧ inTab (l.drop k) r = inTab l r
def Im (l : List (Int × Int)) (xs : List TV) : Nat := l.length - (xs.getD 0 (.int 0)).asInt.toNat
theorem tab_drop {l : List (Int × Int)} {k : Nat} (h : k < l.length) (r : Int) : inTab (l.drop k) r = ((decide ((tg l k).1 ≤ r) && decide (r ≤ (tg l k).2)) || inTab (l.drop (k + 1)) r) := by
  rw [List.drop_eq_getElem_cons h]
  unfold inTab tg
  rw [List.any_cons, List.getD_eq_getElem?_getD, List.getElem?_eq_getElem h]
  rfl
theorem in_c (k : Nat) : Contract Tryd.prog (mkEnv globT []) gtab (sn_ref02_in k) inL.pre inL.post := contract_ref02_in (fun _ => rfl) (fun s hs => by cases hs) k (by
  rintro ts hl ⟨l, r, rfl, hsz⟩
  have hfin : ∀ x : TV, x = .bool (inTab l r) → inL.post [tabT l, .int r] x := fun x h => in_fin h
  generalize inL.post [tabT l, .int r] = R at hfin ⊢
  unfold tr_ref02_in
  simp only [Tree.den, E.den, P1.den, P2.den, P3.den, List.map_cons, List.map_nil, List.cons_append, List.nil_append, List.getD_cons_zero, List.getD_cons_succ, List.getElem?_cons_zero, List.getElem?_cons_succ, asInt_int, asBool_bool, asStr_str, asList_list, cells_agg, TV.cell, pre_zero, pre_succ, post_zero, post_succ, decide_eq_true_eq, decide_eq_false_iff_not, beq_iff_eq, beq_eq_false_iff_ne, Bool.not_eq_true', Bool.not_eq_false', ne_eq, List.length_cons, List.length_nil, forall_eq, Bool.false_eq_true, Bool.true_eq_false, Int.reduceToNat, Option.some.injEq, exists_eq_left', tab_len]
  refine ⟨II l r, Im l, ⟨0, rfl, by omega, by rw [List.drop_zero]⟩, ?_⟩
  rintro xs _ ⟨k, rfl, hk, he⟩
  have hD : Im l [.int (k : Int)] = l.length - k := rfl
  have e64 : IntKind.wrap .i64 ((k : Int) + 1) = ((k + 1 : Nat) : Int) := by rw [wrap_i64 (n := (k : Int) + 1) (by omega) (by omega)]; omega
  have hg : k < l.length → (tabT l).asList.getD k (.int 0) = .agg [.int (tg l k).1, .int (tg l k).2] := tab_get
  have hback : k < l.length → inTab (l.drop (k + 1)) r = inTab l r → II l r [.int ((k + 1 : Nat) : Int)] ∧ Im l [.int ((k + 1 : Nat) : Int)] < l.length - k := fun h h2 => by
    refine ⟨⟨k + 1, rfl, by omega, h2⟩, ?_⟩
    simp only [Im, List.getD_cons_zero, asInt_int]; omega
  have hdr : k < l.length → inTab (l.drop k) r = ((decide ((tg l k).1 ≤ r) && decide (r ≤ (tg l k).2)) || inTab (l.drop (k + 1)) r) := fun h => tab_drop h r
  by_cases hkl : k < l.length
  · have hg := hg hkl
    have hdr := hdr hkl
    rw [hdr] at he
    simp only [Tree.den, E.den, P1.den, P2.den, P3.den, List.map_cons, List.map_nil, List.cons_append, List.nil_append, List.getD_cons_zero, List.getD_cons_succ, List.getElem?_cons_zero, List.getElem?_cons_succ, asInt_int, asBool_bool, asStr_str, asList_list, cells_agg, TV.cell, pre_zero, pre_succ, post_zero, post_succ, decide_eq_true_eq, decide_eq_false_iff_not, beq_iff_eq, beq_eq_false_iff_ne, Bool.not_eq_true', Bool.not_eq_false', ne_eq, List.length_cons, List.length_nil, forall_eq, Bool.false_eq_true, Bool.true_eq_false, Int.reduceToNat, Option.some.injEq, exists_eq_left', tab_len, hD, e64, Int.toNat_natCast, hg]
    refine ⟨fun _ => ⟨by omega, by omega, fun h1 => ⟨by omega, by omega, fun h2 => hfin _ ?_, fun h2 => ?_⟩, fun h1 => ?_⟩, fun h => by omega⟩
    · rw [← he, decide_eq_true h1, decide_eq_true h2]
      rfl
    · refine hback hkl ?_
      rw [← he, decide_eq_true h1, decide_eq_false h2]
      rfl
    · refine hback hkl ?_
      rw [← he, decide_eq_false h1]
      rfl
  · simp only [Tree.den, E.den, P1.den, P2.den, P3.den, List.map_cons, List.map_nil, List.cons_append, List.nil_append, List.getD_cons_zero, List.getD_cons_succ, List.getElem?_cons_zero, List.getElem?_cons_succ, asInt_int, asBool_bool, asStr_str, asList_list, cells_agg, TV.cell, pre_zero, pre_succ, post_zero, post_succ, decide_eq_true_eq, decide_eq_false_iff_not, beq_iff_eq, beq_eq_false_iff_ne, Bool.not_eq_true', Bool.not_eq_false', ne_eq, List.length_cons, List.length_nil, forall_eq, Bool.false_eq_true, Bool.true_eq_false, Int.reduceToNat, Option.some.injEq, exists_eq_left', tab_len, hD, e64, Int.toNat_natCast]
    refine ⟨fun h => by omega, fun _ => hfin _ ?_⟩
    rw [← he, List.drop_of_length_le (by omega)]
    rfl)
def rmarkL : Law := ⟨fun ts => ∃ (r : Int), ts = [.int r] ∧ (True), fun ts z₀ => ∀ (r : Int), ts = [.int r] → z₀ = .bool (markZ r)⟩
theorem rmark_pre {r : Int} (h : True) : rmarkL.pre [.int r] := ⟨r, rfl, h⟩
theorem rmark_fin {r : Int} {z₀ : TV} (h : z₀ = .bool (markZ r)) : rmarkL.post [.int r] z₀ := fun r₁ e => by
  simp only [List.cons.injEq, TV.str.injEq, TV.int.injEq, TV.bool.injEq, TV.agg.injEq, TV.list.injEq, ints_eq, and_true, true_and, and_assoc] at e; subst e
  exact h
theorem rmark_all {r : Int} {Q : TV → Prop} : (∀ z₀, rmarkL.post [.int r] z₀ → Q z₀) ↔ Q (.bool (markZ r)) := ⟨fun h => h _ (rmark_fin rfl), fun h z₀ hr => by rw [hr _ rfl]; exact h⟩
theorem rmark_c (k : Nat) : Contract Tryd.prog (mkEnv globT []) gtab (sn_ref02_Mark k) rmarkL.pre rmarkL.post := Contract.env (Γ := mkEnv globT [rmarksL, inL]) (contract_ref02_Mark (fun _ => rfl) (fun s hs => by
    simp only [cx_ref02_Mark, List.mem_cons, List.not_mem_nil, or_false] at hs
    rcases hs with rfl | rfl
    · exact Contract.inEnv rfl (rmarks_c 0) rfl
    · exact Contract.inEnv rfl (in_c 1) rfl) k (by
  rintro ts hl ⟨r, rfl, hp⟩
  have hfin : ∀ z₀ : TV, z₀ = .bool (markZ r) → rmarkL.post [.int r] z₀ := fun z₀ h => rmark_fin h
  generalize rmarkL.post [.int r] = R at hfin ⊢
  unfold tr_ref02_Mark
  simp only [Tree.den, E.den, P1.den, P2.den, P3.den, List.map_cons, List.map_nil, List.cons_append, List.nil_append, List.getD_cons_zero, List.getD_cons_succ, List.getElem?_cons_zero, List.getElem?_cons_succ, asInt_int, asBool_bool, asStr_str, asList_list, cells_agg, TV.cell, pre_zero, pre_succ, post_zero, post_succ, decide_eq_true_eq, decide_eq_false_iff_not, beq_iff_eq, beq_eq_false_iff_ne, Bool.not_eq_true', Bool.not_eq_false', ne_eq, List.length_cons, List.length_nil, forall_eq, Bool.false_eq_true, Bool.true_eq_false, Int.reduceToNat, Option.some.injEq, exists_eq_left', rmarks_all, in_all]
  exact ⟨rmarks_pre, in_pre (by decide), hfin _ rfl⟩)) rfl
def rwidthL : Law := ⟨fun ts => ∃ (r : Int), ts = [.int r] ∧ (True), fun ts z₀ => ∀ (r : Int), ts = [.int r] → z₀ = .int (widthZ r)⟩
theorem rwidth_pre {r : Int} (h : True) : rwidthL.pre [.int r] := ⟨r, rfl, h⟩
theorem rwidth_fin {r : Int} {z₀ : TV} (h : z₀ = .int (widthZ r)) : rwidthL.post [.int r] z₀ := fun r₁ e => by
  simp only [List.cons.injEq, TV.str.injEq, TV.int.injEq, TV.bool.injEq, TV.agg.injEq, TV.list.injEq, ints_eq, and_true, true_and, and_assoc] at e; subst e
  exact h
theorem rwidth_all {r : Int} {Q : TV → Prop} : (∀ z₀, rwidthL.post [.int r] z₀ → Q z₀) ↔ Q (.int (widthZ r)) := ⟨fun h => h _ (rwidth_fin rfl), fun h z₀ hr => by rw [hr _ rfl]; exact h⟩
theorem rwidth_c (k : Nat) : Contract Tryd.prog (mkEnv globT []) gtab (sn_ref02_Width k) rwidthL.pre rwidthL.post := Contract.env (Γ := mkEnv globT [inL, rmarkL, rwideL]) (contract_ref02_Width (fun _ => rfl) (fun s hs => by
    simp only [cx_ref02_Width, List.mem_cons, List.not_mem_nil, or_false] at hs
    rcases hs with rfl | rfl | rfl
    · exact Contract.inEnv rfl (in_c 0) rfl
    · exact Contract.inEnv rfl (rmark_c 1) rfl
    · exact Contract.inEnv rfl (rwide_c 2) rfl) k (by
  rintro ts hl ⟨r, rfl, hp⟩
  have hfin : ∀ z₀ : TV, z₀ = .int (widthZ r) → rwidthL.post [.int r] z₀ := fun z₀ h => rwidth_fin h
  generalize rwidthL.post [.int r] = R at hfin ⊢
  unfold tr_ref02_Width
  simp only [Tree.den, E.den, P1.den, P2.den, P3.den, List.map_cons, List.map_nil, List.cons_append, List.nil_append, List.getD_cons_zero, List.getD_cons_succ, List.getElem?_cons_zero, List.getElem?_cons_succ, asInt_int, asBool_bool, asStr_str, asList_list, cells_agg, TV.cell, pre_zero, pre_succ, post_zero, post_succ, decide_eq_true_eq, decide_eq_false_iff_not, beq_iff_eq, beq_eq_false_iff_ne, Bool.not_eq_true', Bool.not_eq_false', ne_eq, List.length_cons, List.length_nil, forall_eq, Bool.false_eq_true, Bool.true_eq_false, Int.reduceToNat, Option.some.injEq, exists_eq_left', rmark_all, in_all, rwide_all]
  unfold widthZ at hfin
  have p1 : rwideL.pre [] := rwide_pre
  have p2 : rmarkL.pre [.int r] := rmark_pre trivial
  have p3 : inL.pre [tabT wideL', .int r] := in_pre (by decide)
  repeat' (first
    | (refine hfin _ ?_
       simp only [*]
       simp
       try omega)
    | (refine ⟨fun _ => ?_, fun _ => ?_⟩)
    | (refine ⟨by assumption, ?_⟩)))) rfl

/-! ### The search in the program -/
def TabOk (l : List (Int × Int)) : Prop := ∀ i j, i < j → j < l.length → (tg l i).1 ≤ (tg l i).2 ∧ (tg l i).2 < (tg l j).1 ∧ (tg l j).1 ≤ (tg l j).2
def BI (l : List (Int × Int)) (r : Int) (xs : List TV) : Prop := ∃ lo hi : Nat, xs = [.int lo, .int hi] ∧ lo ≤ hi ∧ hi ≤ l.length ∧ (∀ i, i < lo → (tg l i).2 < r) ∧ (∀ i, hi ≤ i → i < l.length → r ≤ (tg l i).2)
def Bm (xs : List TV) : Nat := (xs.getD 1 (.int 0)).asInt.toNat - (xs.getD 0 (.int 0)).asInt.toNat
theorem inTab_false {l : List (Int × Int)} {r : Int} (h : ∀ i, i < l.length → ¬ ((tg l i).1 ≤ r ∧ r ≤ (tg l i).2)) : inTab l r = false := by
  unfold inTab
  rw [List.any_eq_false]
  intro p hp
  obtain ⟨i, hi, rfl⟩ := List.getElem_of_mem hp
  have := h i hi
  unfold tg at this
  rw [List.getD_eq_getElem?_getD, List.getElem?_eq_getElem hi] at this
  simpa using this
theorem inTab_true {l : List (Int × Int)} {r : Int} {i : Nat} (hi : i < l.length) (h : (tg l i).1 ≤ r ∧ r ≤ (tg l i).2) : inTab l r = true := by
  unfold inTab
  rw [List.any_eq_true]
  refine ⟨l[i], List.getElem_mem hi, ?_⟩
  unfold tg at h
  rw [List.getD_eq_getElem?_getD, List.getElem?_eq_getElem hi] at h
  simpa using h
theorem search_end {l : List (Int × Int)} (ok : TabOk l) {r : Int} {lo : Nat} (h1 : ∀ i, i < lo → (tg l i).2 < r) (h2 : ∀ i, lo ≤ i → i < l.length → r ≤ (tg l i).2) : inTab l r = (decide (lo < l.length) && decide ((tg l lo).1 ≤ r)) := by
  by_cases hl : lo < l.length
  · rw [decide_eq_true hl, Bool.true_and]
    by_cases hr : (tg l lo).1 ≤ r
    · rw [decide_eq_true hr]
      exact inTab_true hl ⟨hr, h2 lo (Nat.le_refl _) hl⟩
    · rw [decide_eq_false hr]
      refine inTab_false fun i hi h => ?_
      rcases Nat.lt_trichotomy i lo with hlt | rfl | hgt
      · have := h1 i hlt; omega
      · exact hr h.1
      · have h3 := ok lo i hgt hi
        have := h2 lo (Nat.le_refl _) hl
        omega
  · rw [decide_eq_false hl, Bool.false_and]
    refine inTab_false fun i hi h => ?_
    have := h1 i (by omega)
    omega
theorem mid_eq {lo hi : Nat} (h : lo ≤ hi) (k : hi ≤ 1000) : IntKind.wrap .i64 ((IntKind.wrap .i64 ((lo : Int) + (hi : Int))).tdiv 2) = (((lo + hi) / 2 : Nat) : Int) := by
  rw [wrap_i64 (n := (lo : Int) + hi) (by omega) (by omega), Int.tdiv_eq_ediv_of_nonneg (by omega), wrap_i64 (by omega) (by omega)]
  omega
theorem search_step {l : List (Int × Int)} (ok : TabOk l) {r : Int} {lo hi : Nat} (hlt : lo < hi) (hh : hi ≤ l.length) (h1 : ∀ i, i < lo → (tg l i).2 < r) (h2 : ∀ i, hi ≤ i → i < l.length → r ≤ (tg l i).2) :
    ((tg l ((lo + hi) / 2)).2 < r → BI l r [.int (((lo + hi) / 2 + 1 : Nat) : Int), .int (hi : Int)] ∧ Bm [.int (((lo + hi) / 2 + 1 : Nat) : Int), .int (hi : Int)] < hi - lo) ∧
    (¬ (tg l ((lo + hi) / 2)).2 < r → BI l r [.int (lo : Int), .int (((lo + hi) / 2 : Nat) : Int)] ∧ Bm [.int (lo : Int), .int (((lo + hi) / 2 : Nat) : Int)] < hi - lo) := by
  have hm : (lo + hi) / 2 < hi := by omega
  refine ⟨fun h => ⟨⟨_, _, rfl, by omega, hh, fun i hi' => ?_, h2⟩, ?_⟩, fun h => ⟨⟨_, _, rfl, by omega, by omega, h1, fun i hi' hil => ?_⟩, ?_⟩⟩
  · rcases Nat.lt_or_ge i ((lo + hi) / 2) with hlt' | hge
    · have := ok i ((lo + hi) / 2) hlt' (by omega); omega
    · have : i = (lo + hi) / 2 := by omega
      subst this; exact h
  · simp only [Bm, List.getD_cons_zero, List.getD_cons_succ, asInt_int]; omega
  · rcases Nat.lt_or_ge ((lo + hi) / 2) i with hlt' | hge
    · have := ok ((lo + hi) / 2) i hlt' hil; omega
    · have : i = (lo + hi) / 2 := by omega
      subst this; omega
  · simp only [Bm, List.getD_cons_zero, List.getD_cons_succ, asInt_int]; omega
theorem ok_marks : TabOk marksL' := by
  have key : ∀ i j : Fin 7, i.val < j.val → (tg marksL' i.val).1 ≤ (tg marksL' i.val).2 ∧ (tg marksL' i.val).2 < (tg marksL' j.val).1 ∧ (tg marksL' j.val).1 ≤ (tg marksL' j.val).2 := by decide +kernel
  intro i j hij hj
  have : j < 7 := hj
  exact key ⟨i, by omega⟩ ⟨j, this⟩ hij
theorem ok_wide : TabOk wideL' := by
  have key : ∀ i j : Fin 14, i.val < j.val → (tg wideL' i.val).1 ≤ (tg wideL' i.val).2 ∧ (tg wideL' i.val).2 < (tg wideL' j.val).1 ∧ (tg wideL' j.val).1 ≤ (tg wideL' j.val).2 := by decide +kernel
  intro i j hij hj
  have : j < 14 := hj
  exact key ⟨i, by omega⟩ ⟨j, this⟩ hij
def markL : Law := ⟨fun ts => ∃ (r : Int), ts = [.int r] ∧ (True), fun ts z₀ => ∀ (r : Int), ts = [.int r] → z₀ = .bool (markZ r)⟩
theorem mark_pre {r : Int} (h : True) : markL.pre [.int r] := ⟨r, rfl, h⟩
theorem mark_fin {r : Int} {z₀ : TV} (h : z₀ = .bool (markZ r)) : markL.post [.int r] z₀ := fun r₁ e => by
  simp only [List.cons.injEq, TV.str.injEq, TV.int.injEq, TV.bool.injEq, TV.agg.injEq, TV.list.injEq, ints_eq, and_true, true_and, and_assoc] at e; subst e
  exact h
theorem mark_all {r : Int} {Q : TV → Prop} : (∀ z₀, markL.post [.int r] z₀ → Q z₀) ↔ Q (.bool (markZ r)) := ⟨fun h => h _ (mark_fin rfl), fun h z₀ hr => by rw [hr _ rfl]; exact h⟩
theorem mark_c (k : Nat) : Contract Tryd.prog (mkEnv globT []) gtab (sn_charwidth_Mark k) markL.pre markL.post := Contract.env (Γ := mkEnv globT [pmarksL]) (contract_charwidth_Mark (fun _ => rfl) (fun s hs => by
    simp only [cx_charwidth_Mark, List.mem_cons, List.not_mem_nil, or_false] at hs
    rcases hs with rfl
    · exact Contract.inEnv rfl (pmarks_c 0) rfl) k (by
  rintro ts hl ⟨r, rfl, hp⟩
  have hfin : ∀ z₀ : TV, z₀ = .bool (markZ r) → markL.post [.int r] z₀ := fun z₀ h => mark_fin h
  generalize markL.post [.int r] = R at hfin ⊢
  unfold tr_charwidth_Mark
  have hml : marksL'.length = 7 := rfl
  simp only [Tree.den, E.den, P1.den, P2.den, P3.den, List.map_cons, List.map_nil, List.cons_append, List.nil_append, List.getD_cons_zero, List.getD_cons_succ, List.getElem?_cons_zero, List.getElem?_cons_succ, asInt_int, asBool_bool, asStr_str, asList_list, cells_agg, TV.cell, pre_zero, pre_succ, post_zero, post_succ, decide_eq_true_eq, decide_eq_false_iff_not, beq_iff_eq, beq_eq_false_iff_ne, Bool.not_eq_true', Bool.not_eq_false', ne_eq, List.length_cons, List.length_nil, forall_eq, Bool.false_eq_true, Bool.true_eq_false, Int.reduceToNat, Option.some.injEq, exists_eq_left', pmarks_all, tab_len, hml]
  refine ⟨pmarks_pre, BI marksL' r, Bm, ⟨0, 7, rfl, by omega, by decide, fun i hi => by omega, fun i hi h => by rw [hml] at h; omega⟩, ?_⟩
  rintro xs _ ⟨lo, hi, rfl, h0, h7, h1, h2⟩
  rw [hml] at h7
  have hD : Bm [.int (lo : Int), .int (hi : Int)] = hi - lo := rfl
  have hmid := mid_eq h0 (by omega)
  have e64 : IntKind.wrap .i64 ((((lo + hi) / 2 : Nat) : Int) + 1) = (((lo + hi) / 2 + 1 : Nat) : Int) := by rw [wrap_i64 (by omega) (by omega)]; omega
  by_cases hlt : lo < hi
  · have hg : (tabT marksL').asList.getD ((lo + hi) / 2) (.int 0) = .agg [.int (tg marksL' ((lo + hi) / 2)).1, .int (tg marksL' ((lo + hi) / 2)).2] := tab_get (by rw [hml]; omega)
    have hst := search_step ok_marks hlt (by rw [hml]; exact h7) h1 h2
    simp only [Tree.den, E.den, P1.den, P2.den, P3.den, List.map_cons, List.map_nil, List.cons_append, List.nil_append, List.getD_cons_zero, List.getD_cons_succ, List.getElem?_cons_zero, List.getElem?_cons_succ, asInt_int, asBool_bool, asStr_str, asList_list, cells_agg, TV.cell, pre_zero, pre_succ, post_zero, post_succ, decide_eq_true_eq, decide_eq_false_iff_not, beq_iff_eq, beq_eq_false_iff_ne, Bool.not_eq_true', Bool.not_eq_false', ne_eq, List.length_cons, List.length_nil, forall_eq, Bool.false_eq_true, Bool.true_eq_false, Int.reduceToNat, Option.some.injEq, exists_eq_left', tab_len, hml, hD, hmid, e64, Int.toNat_natCast, hg]
    exact ⟨fun _ => ⟨by omega, by omega, hst.1, hst.2⟩, fun h => by omega⟩
  · have hlh : lo = hi := by omega
    subst hlh
    have hend := search_end ok_marks h1 h2
    rw [hml] at hend
    simp only [Tree.den, E.den, P1.den, P2.den, P3.den, List.map_cons, List.map_nil, List.cons_append, List.nil_append, List.getD_cons_zero, List.getD_cons_succ, List.getElem?_cons_zero, List.getElem?_cons_succ, asInt_int, asBool_bool, asStr_str, asList_list, cells_agg, TV.cell, pre_zero, pre_succ, post_zero, post_succ, decide_eq_true_eq, decide_eq_false_iff_not, beq_iff_eq, beq_eq_false_iff_ne, Bool.not_eq_true', Bool.not_eq_false', ne_eq, List.length_cons, List.length_nil, forall_eq, Bool.false_eq_true, Bool.true_eq_false, Int.reduceToNat, Option.some.injEq, exists_eq_left', tab_len, hml, hD, Int.toNat_natCast]
    refine ⟨fun h => by omega, fun _ => ⟨fun h => ⟨by omega, by omega, ?_⟩, fun h => ?_⟩⟩
    · have hg : (tabT marksL').asList.getD lo (.int 0) = .agg [.int (tg marksL' lo).1, .int (tg marksL' lo).2] := tab_get (by rw [hml]; omega)
      simp only [Tree.den, E.den, P1.den, P2.den, P3.den, List.map_cons, List.map_nil, List.cons_append, List.nil_append, List.getD_cons_zero, List.getD_cons_succ, List.getElem?_cons_zero, List.getElem?_cons_succ, asInt_int, asBool_bool, asStr_str, asList_list, cells_agg, TV.cell, pre_zero, pre_succ, post_zero, post_succ, decide_eq_true_eq, decide_eq_false_iff_not, beq_iff_eq, beq_eq_false_iff_ne, Bool.not_eq_true', Bool.not_eq_false', ne_eq, List.length_cons, List.length_nil, forall_eq, Bool.false_eq_true, Bool.true_eq_false, Int.reduceToNat, Option.some.injEq, exists_eq_left', hg]
      refine hfin _ ?_
      unfold markZ
      rw [hend, decide_eq_true (show lo < 7 by omega), Bool.true_and]
    · refine hfin _ ?_
      unfold markZ
      rw [hend, decide_eq_false (show ¬ lo < 7 by omega), Bool.false_and])) rfl
theorem wide_loop {Γ : CEnv} {R : TV → Prop} {ρ : List TV} {L : List (List TV → Prop)} {r : Int} : True := trivial
def widthL : Law := ⟨fun ts => ∃ (r : Int), ts = [.int r] ∧ (True), fun ts z₀ => ∀ (r : Int), ts = [.int r] → z₀ = .int (widthZ r)⟩
theorem width_pre {r : Int} (h : True) : widthL.pre [.int r] := ⟨r, rfl, h⟩
theorem width_fin {r : Int} {z₀ : TV} (h : z₀ = .int (widthZ r)) : widthL.post [.int r] z₀ := fun r₁ e => by
  simp only [List.cons.injEq, TV.str.injEq, TV.int.injEq, TV.bool.injEq, TV.agg.injEq, TV.list.injEq, ints_eq, and_true, true_and, and_assoc] at e; subst e
  exact h
theorem width_all {r : Int} {Q : TV → Prop} : (∀ z₀, widthL.post [.int r] z₀ → Q z₀) ↔ Q (.int (widthZ r)) := ⟨fun h => h _ (width_fin rfl), fun h z₀ hr => by rw [hr _ rfl]; exact h⟩
theorem width_c (k : Nat) : Contract Tryd.prog (mkEnv globT []) gtab (sn_charwidth_Width k) widthL.pre widthL.post := Contract.env (Γ := mkEnv globT [pwideL, markL]) (contract_charwidth_Width (fun _ => rfl) (fun s hs => by
    simp only [cx_charwidth_Width, List.mem_cons, List.not_mem_nil, or_false] at hs
    rcases hs with rfl | rfl
    · exact Contract.inEnv rfl (pwide_c 0) rfl
    · exact Contract.inEnv rfl (mark_c 1) rfl) k (by
  rintro ts hl ⟨r, rfl, hp⟩
  have hfin : ∀ z₀ : TV, z₀ = .int (widthZ r) → widthL.post [.int r] z₀ := fun z₀ h => width_fin h
  generalize widthL.post [.int r] = R at hfin ⊢
  unfold tr_charwidth_Width
  have hwl : wideL'.length = 14 := rfl
  have p1 : pwideL.pre [] := pwide_pre
  have p2 : markL.pre [.int r] := mark_pre trivial
  have hinit : BI wideL' r [.int 0, .int (14 : Nat)] := ⟨0, 14, rfl, by omega, by decide, fun i hi => by omega, fun i hi h => by rw [hwl] at h; omega⟩
  simp only [Tree.den, E.den, P1.den, P2.den, P3.den, List.map_cons, List.map_nil, List.cons_append, List.nil_append, List.getD_cons_zero, List.getD_cons_succ, List.getElem?_cons_zero, List.getElem?_cons_succ, asInt_int, asBool_bool, asStr_str, asList_list, cells_agg, TV.cell, pre_zero, pre_succ, post_zero, post_succ, decide_eq_true_eq, decide_eq_false_iff_not, beq_iff_eq, beq_eq_false_iff_ne, Bool.not_eq_true', Bool.not_eq_false', ne_eq, List.length_cons, List.length_nil, forall_eq, Bool.false_eq_true, Bool.true_eq_false, Int.reduceToNat, Option.some.injEq, exists_eq_left', mark_all, pwide_all, tab_len, hwl]
  unfold widthZ at hfin
  have hloop : ¬ (r < 32 ∨ (127 ≤ r ∧ r ≤ 159)) → markZ r = false → ∀ xs, BI wideL' r xs → ∃ lo hi : Nat, xs = [.int lo, .int hi] ∧ lo ≤ hi ∧ hi ≤ 14 ∧ Bm [.int (lo : Int), .int (hi : Int)] = hi - lo ∧ IntKind.wrap .i64 ((IntKind.wrap .i64 ((lo : Int) + (hi : Int))).tdiv 2) = (((lo + hi) / 2 : Nat) : Int) ∧ IntKind.wrap .i64 ((((lo + hi) / 2 : Nat) : Int) + 1) = (((lo + hi) / 2 + 1 : Nat) : Int) ∧
      (lo < hi → (tabT wideL').asList.getD ((lo + hi) / 2) (.int 0) = .agg [.int (tg wideL' ((lo + hi) / 2)).1, .int (tg wideL' ((lo + hi) / 2)).2] ∧
        ((tg wideL' ((lo + hi) / 2)).2 < r → BI wideL' r [.int (((lo + hi) / 2 + 1 : Nat) : Int), .int (hi : Int)] ∧ Bm [.int (((lo + hi) / 2 + 1 : Nat) : Int), .int (hi : Int)] < hi - lo) ∧
        (¬ (tg wideL' ((lo + hi) / 2)).2 < r → BI wideL' r [.int (lo : Int), .int (((lo + hi) / 2 : Nat) : Int)] ∧ Bm [.int (lo : Int), .int (((lo + hi) / 2 : Nat) : Int)] < hi - lo)) ∧
      (¬ lo < hi → (lo < 14 → (tabT wideL').asList.getD lo (.int 0) = .agg [.int (tg wideL' lo).1, .int (tg wideL' lo).2] ∧ ((tg wideL' lo).1 ≤ r → R (.int 2)) ∧ (¬ (tg wideL' lo).1 ≤ r → R (.int 1))) ∧ (¬ lo < 14 → R (.int 1))) := by
    intro hr hm xs hxs
    rw [if_neg hr, hm] at hfin
    obtain ⟨lo, hi, rfl, h0, h14, h1, h2⟩ := hxs
    rw [hwl] at h14
    refine ⟨lo, hi, rfl, h0, h14, rfl, mid_eq h0 (by omega), by rw [wrap_i64 (by omega) (by omega)]; omega, fun hlt => ⟨tab_get (by rw [hwl]; omega), search_step ok_wide hlt (by rw [hwl]; exact h14) h1 h2⟩, fun hlt => ?_⟩
    have hlh : lo = hi := by omega
    subst hlh
    have hend := search_end ok_wide h1 h2
    rw [hwl] at hend
    rw [hend] at hfin
    refine ⟨fun h => ⟨tab_get (by rw [hwl]; omega), fun h' => hfin _ ?_, fun h' => hfin _ ?_⟩, fun h => hfin _ ?_⟩
    · rw [decide_eq_true h, decide_eq_true h']; rfl
    · rw [decide_eq_true h, decide_eq_false h']; rfl
    · rw [decide_eq_false h]; rfl
  have fin1 : (r < 32 ∨ (127 ≤ r ∧ r ≤ 159)) → R (.int (-1)) := fun h => hfin _ (by rw [if_pos h])
  have fin0 : ¬ (r < 32 ∨ (127 ≤ r ∧ r ≤ 159)) → markZ r = true → R (.int 0) := fun h hm => hfin _ (by rw [if_neg h, hm]; rfl)
  clear hfin
  repeat' (first
    | (exact fin1 (by omega))
    | (exact fin0 (by omega) (by assumption))
    | (refine ⟨BI wideL' r, Bm, hinit, ?_⟩
       intro xs _ hxs
       obtain ⟨lo, hi, rfl, h0, h14, hD, hmid, e64, hst, hen⟩ := hloop (by omega) (by simpa using ‹_›) xs hxs
       by_cases hlt : lo < hi
       · obtain ⟨hg, hs1, hs2⟩ := hst hlt
         simp only [Tree.den, E.den, P1.den, P2.den, P3.den, List.map_cons, List.map_nil, List.cons_append, List.nil_append, List.getD_cons_zero, List.getD_cons_succ, List.getElem?_cons_zero, List.getElem?_cons_succ, asInt_int, asBool_bool, asStr_str, asList_list, cells_agg, TV.cell, pre_zero, pre_succ, post_zero, post_succ, decide_eq_true_eq, decide_eq_false_iff_not, beq_iff_eq, beq_eq_false_iff_ne, Bool.not_eq_true', Bool.not_eq_false', ne_eq, List.length_cons, List.length_nil, forall_eq, Bool.false_eq_true, Bool.true_eq_false, Int.reduceToNat, Option.some.injEq, exists_eq_left', tab_len, hwl, hD, hmid, e64, Int.toNat_natCast, hg]
         exact ⟨fun _ => ⟨by omega, by omega, hs1, hs2⟩, fun h => by omega⟩
       · obtain ⟨he1, he2⟩ := hen hlt
         by_cases hl14 : lo < 14
         · obtain ⟨hg, h1, h2⟩ := he1 hl14
           simp only [Tree.den, E.den, P1.den, P2.den, P3.den, List.map_cons, List.map_nil, List.cons_append, List.nil_append, List.getD_cons_zero, List.getD_cons_succ, List.getElem?_cons_zero, List.getElem?_cons_succ, asInt_int, asBool_bool, asStr_str, asList_list, cells_agg, TV.cell, pre_zero, pre_succ, post_zero, post_succ, decide_eq_true_eq, decide_eq_false_iff_not, beq_iff_eq, beq_eq_false_iff_ne, Bool.not_eq_true', Bool.not_eq_false', ne_eq, List.length_cons, List.length_nil, forall_eq, Bool.false_eq_true, Bool.true_eq_false, Int.reduceToNat, Option.some.injEq, exists_eq_left', tab_len, hwl, hD, hmid, e64, Int.toNat_natCast, hg]
           exact ⟨fun h => by omega, fun _ => ⟨fun _ => ⟨by omega, by omega, h1, h2⟩, fun h => by omega⟩⟩
         · simp only [Tree.den, E.den, P1.den, P2.den, P3.den, List.map_cons, List.map_nil, List.cons_append, List.nil_append, List.getD_cons_zero, List.getD_cons_succ, List.getElem?_cons_zero, List.getElem?_cons_succ, asInt_int, asBool_bool, asStr_str, asList_list, cells_agg, TV.cell, pre_zero, pre_succ, post_zero, post_succ, decide_eq_true_eq, decide_eq_false_iff_not, beq_iff_eq, beq_eq_false_iff_ne, Bool.not_eq_true', Bool.not_eq_false', ne_eq, List.length_cons, List.length_nil, forall_eq, Bool.false_eq_true, Bool.true_eq_false, Int.reduceToNat, Option.some.injEq, exists_eq_left', tab_len, hwl, hD, hmid, e64, Int.toNat_natCast]
           exact ⟨fun h => by omega, fun _ => ⟨fun h => by omega, fun _ => he2 hl14⟩⟩)
    | (refine ⟨by assumption, ?_⟩)
    | (refine ⟨fun _ => ?_, fun _ => ?_⟩)))) rfl
end Go.Proofs.YtnbbepgmnbmfdaaDoor
