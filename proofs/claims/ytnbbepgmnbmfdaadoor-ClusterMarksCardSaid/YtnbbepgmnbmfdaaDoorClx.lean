/- The laws of chapter 03. -/
import Derived.Test.YtnbbepgmnbmfdaaDoorClw
import Derived.Test.YtnbbepgmnbmfdaaDoorL1
namespace Go.Proofs.YtnbbepgmnbmfdaaDoor
set_option linter.unusedSimpArgs false
set_option linter.unusedVariables false
set_option linter.unusedSectionVars false

def runesP (ts : List TV) : Prop := ∃ l : List Int, ts = [ints l] ∧ Run l
theorem runesP_of {t : TV} (h : OkA false [.slice false [.int .i32]] t) : runesP [t] := by
  obtain ⟨l, rfl, h1, h2⟩ := h.ints
  exact ⟨l, rfl, h2⟩
def runes2P (ts : List TV) : Prop := ∃ l m : List Int, ts = [ints l, ints m] ∧ Run l ∧ Run m
theorem runes2P_of {t u : TV} (h : OkA false [.slice false [.int .i32]] t) (k : OkA false [.slice false [.int .i32]] u) : runes2P [t, u] := by
  obtain ⟨l, rfl, h1, h2⟩ := h.ints
  obtain ⟨m, rfl, h3, h4⟩ := k.ints
  exact ⟨l, m, rfl, h2, h4⟩
def strP (ts : List TV) : Prop := ∃ s, ts = [.str s] ∧ s.length ≤ reachBytes
theorem strP_of {t : TV} (h : OkA false [.str] t) : strP [t] := by
  obtain ⟨s, rfl, h1⟩ := h.str
  exact ⟨s, rfl, h1⟩
def strRuneP (ts : List TV) : Prop := ∃ (s : List UInt8) (m : Int), ts = [.str s, .int m] ∧ -2147483648 ≤ m ∧ m ≤ 2147483647
theorem strRuneP_of {t u : TV} (h : OkA false [.str] t) (k : OkA false [.int .i32] u) : strRuneP [t, u] := by
  obtain ⟨s, rfl, h1⟩ := h.str
  obtain ⟨z, rfl, h2, h3⟩ := k.int
  exact ⟨s, z, rfl, h2, h3⟩
def runeRunesP (ts : List TV) : Prop := ∃ (r : Int) (l : List Int), ts = [.int r, ints l] ∧ -2147483648 ≤ r ∧ r ≤ 2147483647 ∧ Run l
theorem runeRunesP_of {t u : TV} (h : OkA false [.int .i32] t) (k : OkA false [.slice false [.int .i32]] u) : runeRunesP [t, u] := by
  obtain ⟨z, rfl, h2, h3⟩ := h.int
  obtain ⟨l, rfl, h4, h5⟩ := k.ints
  exact ⟨z, l, rfl, h2, h3, h5⟩

theorem lawSplit_c (k : Nat) : Contract Tryd.prog (mkEnv globT []) gtab (sn_law03_ClusterSplit k) (trueL runesP).pre (trueL runesP).post := Contract.env (Γ := mkEnv globT [splitL, rsplitL, samesL, awakeL]) (contract_law03_ClusterSplit (fun _ => rfl) (fun s hs => by
    simp only [cx_law03_ClusterSplit, List.mem_cons, List.not_mem_nil, or_false] at hs
    rcases hs with rfl | rfl | rfl | rfl
    · exact Contract.inEnv rfl (split_c 0) rfl
    · exact Contract.inEnv rfl (rsplit_c 1) rfl
    · exact Contract.inEnv rfl (sames_c 2) rfl
    · exact Contract.inEnv rfl (awake_c 3) rfl) k (by
  rintro ts hl ⟨l, rfl, hr⟩
  unfold tr_law03_ClusterSplit
  have hsl := split_len l
  simp only [Tree.den, E.den, P1.den, P2.den, P3.den, List.map_cons, List.map_nil, List.cons_append, List.nil_append, List.getD_cons_zero, List.getD_cons_succ, List.getElem?_cons_zero, List.getElem?_cons_succ, asInt_int, asBool_bool, asStr_str, asList_list, cells_agg, TV.cell, pre_zero, pre_succ, post_zero, post_succ, decide_eq_true_eq, decide_eq_false_iff_not, beq_iff_eq, beq_eq_false_iff_ne, Bool.not_eq_true', Bool.not_eq_false', ne_eq, List.length_cons, List.length_nil, forall_eq, Bool.false_eq_true, Bool.true_eq_false, Int.reduceToNat, Option.some.injEq, exists_eq_left', awake_all, split_all, rsplit_all, sames_all]
  simp only [Tree.den, E.den, P1.den, P2.den, P3.den, List.map_cons, List.map_nil, List.cons_append, List.nil_append, List.getD_cons_zero, List.getD_cons_succ, List.getElem?_cons_zero, List.getElem?_cons_succ, asInt_int, asBool_bool, asStr_str, asList_list, cells_agg, TV.cell, pre_zero, pre_succ, post_zero, post_succ, decide_eq_true_eq, decide_eq_false_iff_not, beq_iff_eq, beq_eq_false_iff_ne, Bool.not_eq_true', Bool.not_eq_false', ne_eq, List.length_cons, List.length_nil, forall_eq, Bool.false_eq_true, Bool.true_eq_false, Int.reduceToNat, Option.some.injEq, exists_eq_left', ints_asList, map_snoc, map_app, list_map, ints_nil, ints_get, ints_len, bs_get, Int.toNat_natCast, List.length_append, List.length_map, bs_length, awake_all]
  exact ⟨fun _ => ⟨awake_pre, rfl⟩, fun h => ⟨split_pre ⟨hr, by omega⟩, rsplit_pre ⟨hr, by omega⟩, sames_pre (by rw [List.length_map]; omega), fun _ => ⟨awake_pre, rfl⟩, fun h => (by simp at h)⟩⟩)) rfl
def sameRL : Law := ⟨fun ts => ∃ (a : List Int) (b : List Int), ts = [ints a, ints b] ∧ (a.length ≤ 1099511627776), fun ts z₀ => ∀ (a : List Int) (b : List Int), ts = [ints a, ints b] → z₀ = .bool (decide (a = b))⟩
theorem sameR_pre {a : List Int} {b : List Int} (h : a.length ≤ 1099511627776) : sameRL.pre [ints a, ints b] := ⟨a, b, rfl, h⟩
theorem sameR_fin {a : List Int} {b : List Int} {z₀ : TV} (h : z₀ = .bool (decide (a = b))) : sameRL.post [ints a, ints b] z₀ := fun a₁ b₁ e => by
  simp only [List.cons.injEq, TV.str.injEq, TV.int.injEq, TV.bool.injEq, TV.agg.injEq, TV.list.injEq, ints_eq, and_true, true_and, and_assoc] at e; obtain ⟨rfl, rfl⟩ := e
  exact h
theorem sameR_all {a : List Int} {b : List Int} {Q : TV → Prop} : (∀ z₀, sameRL.post [ints a, ints b] z₀ → Q z₀) ↔ Q (.bool (decide (a = b))) := ⟨fun h => h _ (sameR_fin rfl), fun h z₀ hr => by rw [hr _ _ rfl]; exact h⟩
def QI (a b : List Int) (xs : List TV) : Prop := ∃ k : Nat, xs = [.int k] ∧ k ≤ a.length ∧ a.take k = b.take k
def Qm (a : List Int) (xs : List TV) : Nat := a.length - (xs.getD 0 (.int 0)).asInt.toNat
theorem sameR_c (k : Nat) : Contract Tryd.prog (mkEnv globT []) gtab (sn_ref01_Same k) sameRL.pre sameRL.post := Contract.env (Γ := mkEnv globT []) (contract_ref01_Same (fun _ => rfl) (fun s hs => by
    cases hs) k (by
  rintro ts hl ⟨a, b, rfl, hp⟩
  have hfin : ∀ z₀ : TV, z₀ = .bool (decide (a = b)) → sameRL.post [ints a, ints b] z₀ := fun z₀ h => sameR_fin h
  generalize sameRL.post [ints a, ints b] = R at hfin ⊢
  unfold tr_ref01_Same
  simp only [Tree.den, E.den, P1.den, P2.den, P3.den, List.map_cons, List.map_nil, List.cons_append, List.nil_append, List.getD_cons_zero, List.getD_cons_succ, List.getElem?_cons_zero, List.getElem?_cons_succ, asInt_int, asBool_bool, asStr_str, asList_list, cells_agg, TV.cell, pre_zero, pre_succ, post_zero, post_succ, decide_eq_true_eq, decide_eq_false_iff_not, beq_iff_eq, beq_eq_false_iff_ne, Bool.not_eq_true', Bool.not_eq_false', ne_eq, List.length_cons, List.length_nil, forall_eq, Bool.false_eq_true, Bool.true_eq_false, Int.reduceToNat, Option.some.injEq, exists_eq_left']
  simp only [Tree.den, E.den, P1.den, P2.den, P3.den, List.map_cons, List.map_nil, List.cons_append, List.nil_append, List.getD_cons_zero, List.getD_cons_succ, List.getElem?_cons_zero, List.getElem?_cons_succ, asInt_int, asBool_bool, asStr_str, asList_list, cells_agg, TV.cell, pre_zero, pre_succ, post_zero, post_succ, decide_eq_true_eq, decide_eq_false_iff_not, beq_iff_eq, beq_eq_false_iff_ne, Bool.not_eq_true', Bool.not_eq_false', ne_eq, List.length_cons, List.length_nil, forall_eq, Bool.false_eq_true, Bool.true_eq_false, Int.reduceToNat, Option.some.injEq, exists_eq_left', ints_asList, map_snoc, map_app, list_map, ints_nil, ints_get, ints_len, bs_get, Int.toNat_natCast, List.length_append, List.length_map, bs_length]
  refine ⟨fun h => hfin _ ?_, fun h => ⟨QI a b, Qm a, ⟨0, rfl, by omega, rfl⟩, ?_⟩⟩
  · rw [decide_eq_false fun e => h (by rw [e])]
  · rintro xs _ ⟨k, rfl, hk, he⟩
    simp only [Tree.den, E.den, P1.den, P2.den, P3.den, List.map_cons, List.map_nil, List.cons_append, List.nil_append, List.getD_cons_zero, List.getD_cons_succ, List.getElem?_cons_zero, List.getElem?_cons_succ, asInt_int, asBool_bool, asStr_str, asList_list, cells_agg, TV.cell, pre_zero, pre_succ, post_zero, post_succ, decide_eq_true_eq, decide_eq_false_iff_not, beq_iff_eq, beq_eq_false_iff_ne, Bool.not_eq_true', Bool.not_eq_false', ne_eq, List.length_cons, List.length_nil, forall_eq, Bool.false_eq_true, Bool.true_eq_false, Int.reduceToNat, Option.some.injEq, exists_eq_left', ints_asList, map_snoc, map_app, list_map, ints_nil, ints_get, ints_len, bs_get, Int.toNat_natCast, List.length_append, List.length_map, bs_length]
    have hl : a.length = b.length := by omega
    refine ⟨fun hlt => ⟨by omega, by omega, by omega, by omega, fun hne => hfin _ ?_, fun heq => ⟨⟨k + 1, ?_, by omega, ?_⟩, ?_⟩⟩, fun hlt => hfin _ ?_⟩
    · rw [decide_eq_false fun e => hne (by rw [e])]
    · rw [wrap_i64 (by omega) (by omega)]; rfl
    · rw [take_snoc (l := a) (k := k) (by omega), take_snoc (l := b) (k := k) (by omega), he, heq]
    · rw [wrap_i64 (by omega) (by omega)]
      simp only [Qm, List.getD_cons_zero, asInt_int]; omega
    · rw [List.take_of_length_le (by omega), List.take_of_length_le (by omega)] at he
      rw [decide_eq_true he])) rfl
theorem lawParts_c (k : Nat) : Contract Tryd.prog (mkEnv globT []) gtab (sn_law03_ClusterParts k) (trueL strP).pre (trueL strP).post := Contract.env (Γ := mkEnv globT [sameRL, checkL, marksL, baseL, cwidthL, rcharsL, rcheckL, rcwL, awakeL]) (contract_law03_ClusterParts (fun _ => rfl) (fun s hs => by
    simp only [cx_law03_ClusterParts, List.mem_cons, List.not_mem_nil, or_false] at hs
    rcases hs with rfl | rfl | rfl | rfl | rfl | rfl | rfl | rfl | rfl
    · exact Contract.inEnv rfl (sameR_c 0) rfl
    · exact Contract.inEnv rfl (check_c 1) rfl
    · exact Contract.inEnv rfl (marks_c 2) rfl
    · exact Contract.inEnv rfl (base_c 3) rfl
    · exact Contract.inEnv rfl (cwidth_c 4) rfl
    · exact Contract.inEnv rfl (rchars_c 5) rfl
    · exact Contract.inEnv rfl (rcheck_c 6) rfl
    · exact Contract.inEnv rfl (rcw_c 7) rfl
    · exact Contract.inEnv rfl (awake_c 8) rfl) k (by
  rintro ts hl ⟨s, rfl, _⟩
  unfold tr_law03_ClusterParts
  have hrl := runes_len s
  simp only [Tree.den, E.den, P1.den, P2.den, P3.den, List.map_cons, List.map_nil, List.cons_append, List.nil_append, List.getD_cons_zero, List.getD_cons_succ, List.getElem?_cons_zero, List.getElem?_cons_succ, asInt_int, asBool_bool, asStr_str, asList_list, cells_agg, TV.cell, pre_zero, pre_succ, post_zero, post_succ, decide_eq_true_eq, decide_eq_false_iff_not, beq_iff_eq, beq_eq_false_iff_ne, Bool.not_eq_true', Bool.not_eq_false', ne_eq, List.length_cons, List.length_nil, forall_eq, Bool.false_eq_true, Bool.true_eq_false, Int.reduceToNat, Option.some.injEq, exists_eq_left', awake_all, check_all, rcheck_all, cwidth_all, rcw_all, base_all, marks_all, rchars_all]
  simp only [Tree.den, E.den, P1.den, P2.den, P3.den, List.map_cons, List.map_nil, List.cons_append, List.nil_append, List.getD_cons_zero, List.getD_cons_succ, List.getElem?_cons_zero, List.getElem?_cons_succ, asInt_int, asBool_bool, asStr_str, asList_list, cells_agg, TV.cell, pre_zero, pre_succ, post_zero, post_succ, decide_eq_true_eq, decide_eq_false_iff_not, beq_iff_eq, beq_eq_false_iff_ne, Bool.not_eq_true', Bool.not_eq_false', ne_eq, List.length_cons, List.length_nil, forall_eq, Bool.false_eq_true, Bool.true_eq_false, Int.reduceToNat, Option.some.injEq, exists_eq_left', ints_asList, map_snoc, map_app, list_map, ints_nil, ints_get, ints_len, bs_get, Int.toNat_natCast, List.length_append, List.length_map, bs_length, awake_all, ints_drop, sameR_all]
  refine ⟨fun _ => ⟨awake_pre, rfl⟩, fun h200 => ⟨check_pre (by omega), rcheck_pre (by omega), fun h => absurd trivial h, fun _ => ⟨cwidth_pre (by omega), rcw_pre (by omega), fun h => absurd trivial h, fun _ => ⟨rcheck_pre (by omega), fun hne => ⟨base_pre (by omega), fun _ => ⟨marks_pre (by omega), fun _ => ⟨awake_pre, rfl⟩, fun h => absurd ?_ h⟩, fun h => absurd ?_ h⟩, fun hz => ⟨rchars_pre (by omega), ?_, base_pre (by omega), fun hb => ⟨?_, marks_pre (by omega), sameR_pre ?_, fun _ => ⟨awake_pre, rfl⟩, fun h => ?_⟩, fun h => absurd ?_ h⟩⟩⟩⟩⟩
  · unfold marksS; rw [if_neg hne]; rfl
  · unfold baseS; rw [if_neg hne]
  · have := (check_iff.1 hz).2.len; omega
  · have := (check_iff.1 hz).2.len; omega
  · have := marksS_len s; omega
  · exfalso
    unfold marksS at h
    rw [if_pos hz] at h
    simp at h
  · unfold baseS headZ; rw [if_pos hz])) rfl
theorem lawAttach_c (k : Nat) : Contract Tryd.prog (mkEnv globT []) gtab (sn_law03_ClusterAttach k) (trueL strRuneP).pre (trueL strRuneP).post := Contract.env (Γ := mkEnv globT [attachL, rattachL, awakeL]) (contract_law03_ClusterAttach (fun _ => rfl) (fun s hs => by
    simp only [cx_law03_ClusterAttach, List.mem_cons, List.not_mem_nil, or_false] at hs
    rcases hs with rfl | rfl | rfl
    · exact Contract.inEnv rfl (attach_c 0) rfl
    · exact Contract.inEnv rfl (rattach_c 1) rfl
    · exact Contract.inEnv rfl (awake_c 2) rfl) k (by
  rintro ts hl ⟨s, m, rfl, hm⟩
  unfold tr_law03_ClusterAttach
  simp only [Tree.den, E.den, P1.den, P2.den, P3.den, List.map_cons, List.map_nil, List.cons_append, List.nil_append, List.getD_cons_zero, List.getD_cons_succ, List.getElem?_cons_zero, List.getElem?_cons_succ, asInt_int, asBool_bool, asStr_str, asList_list, cells_agg, TV.cell, pre_zero, pre_succ, post_zero, post_succ, decide_eq_true_eq, decide_eq_false_iff_not, beq_iff_eq, beq_eq_false_iff_ne, Bool.not_eq_true', Bool.not_eq_false', ne_eq, List.length_cons, List.length_nil, forall_eq, Bool.false_eq_true, Bool.true_eq_false, Int.reduceToNat, Option.some.injEq, exists_eq_left', awake_all, attach_all, rattach_all]
  exact ⟨fun _ => ⟨awake_pre, rfl⟩, fun h => ⟨attach_pre ⟨by omega, hm⟩, rattach_pre ⟨by omega, hm⟩, fun _ => ⟨fun _ => ⟨awake_pre, rfl⟩, fun h => absurd trivial h⟩, fun h => absurd trivial h⟩⟩)) rfl

/-! ### Proper -/
theorem stepS_len_mark {o : List (List Int)} {r : Int} (h : markZ r = true) (hne : o ≠ []) : (stepS o r).length = o.length := by
  rcases last_cases o with rfl | ⟨p, c, rfl⟩
  · exact absurd rfl hne
  · by_cases hl : c.length ≤ 3
    · rw [step_mark h hl]; simp
    · rw [step_full h hl]
def GI (l : List Int) (xs : List TV) : Prop := ∃ k n e : Nat, xs = [.int n, .int e, .int k] ∧ k ≤ l.length ∧ (splitZ (l.take k)).length = n + e ∧ e ≤ 1
def Gm (l : List Int) (xs : List TV) : Nat := l.length - (xs.getD 2 (.int 0)).asInt.toNat
def EI' (n : Nat) (xs : List TV) : Prop := ∃ k : Nat, xs = [.int k] ∧ k ≤ n
def Em' (n : Nat) (xs : List TV) : Nat := n - (xs.getD 0 (.int 0)).asInt.toNat
theorem map_getD {cs : List (List Int)} {k : Nat} (h : k < cs.length) : (cs.map encS).getD k [] = encS (cs.getD k []) ∧ cs.getD k [] ∈ cs := by
  rw [List.getD_eq_getElem?_getD, List.getElem?_map, List.getD_eq_getElem?_getD, List.getElem?_eq_getElem h]
  exact ⟨rfl, List.getElem_mem h⟩
theorem lawProper_c (k : Nat) : Contract Tryd.prog (mkEnv globT []) gtab (sn_law03_ClusterProper k) (trueL runesP).pre (trueL runesP).post := Contract.env (Γ := mkEnv globT [markL, widthL, checkL, splitL, awakeL]) (contract_law03_ClusterProper (fun _ => rfl) (fun s hs => by
    simp only [cx_law03_ClusterProper, List.mem_cons, List.not_mem_nil, or_false] at hs
    rcases hs with rfl | rfl | rfl | rfl | rfl
    · exact Contract.inEnv rfl (mark_c 0) rfl
    · exact Contract.inEnv rfl (width_c 1) rfl
    · exact Contract.inEnv rfl (check_c 2) rfl
    · exact Contract.inEnv rfl (split_c 3) rfl
    · exact Contract.inEnv rfl (awake_c 4) rfl) k (by
  rintro ts hl ⟨l, rfl, hr⟩
  unfold tr_law03_ClusterProper
  simp only [Tree.den, E.den, P1.den, P2.den, P3.den, List.map_cons, List.map_nil, List.cons_append, List.nil_append, List.getD_cons_zero, List.getD_cons_succ, List.getElem?_cons_zero, List.getElem?_cons_succ, asInt_int, asBool_bool, asStr_str, asList_list, cells_agg, TV.cell, pre_zero, pre_succ, post_zero, post_succ, decide_eq_true_eq, decide_eq_false_iff_not, beq_iff_eq, beq_eq_false_iff_ne, Bool.not_eq_true', Bool.not_eq_false', ne_eq, List.length_cons, List.length_nil, forall_eq, Bool.false_eq_true, Bool.true_eq_false, Int.reduceToNat, Option.some.injEq, exists_eq_left', awake_all]
  simp only [Tree.den, E.den, P1.den, P2.den, P3.den, List.map_cons, List.map_nil, List.cons_append, List.nil_append, List.getD_cons_zero, List.getD_cons_succ, List.getElem?_cons_zero, List.getElem?_cons_succ, asInt_int, asBool_bool, asStr_str, asList_list, cells_agg, TV.cell, pre_zero, pre_succ, post_zero, post_succ, decide_eq_true_eq, decide_eq_false_iff_not, beq_iff_eq, beq_eq_false_iff_ne, Bool.not_eq_true', Bool.not_eq_false', ne_eq, List.length_cons, List.length_nil, forall_eq, Bool.false_eq_true, Bool.true_eq_false, Int.reduceToNat, Option.some.injEq, exists_eq_left', ints_asList, map_snoc, map_app, list_map, ints_nil, ints_get, ints_len, bs_get, Int.toNat_natCast, List.length_append, List.length_map, bs_length, awake_all]
  refine ⟨fun _ => ⟨awake_pre, rfl⟩, fun h100 => ⟨GI l, Gm l, ⟨0, 0, 0, rfl, by omega, rfl, by omega⟩, ?_⟩⟩
  rintro xs _ ⟨k, n, e, rfl, hk, hne, he1⟩
  have hD : ∀ a b, Gm l [a, b, .int (k : Int)] = l.length - k := fun a b => rfl
  have hkl := split_len (l.take k)
  rw [List.length_take] at hkl
  have e64 : IntKind.wrap .i64 ((k : Int) + 1) = ((k + 1 : Nat) : Int) := by rw [wrap_i64 (n := (k : Int) + 1) (by omega) (by omega)]; omega
  have en1 : IntKind.wrap .i64 ((n : Int) + 1) = ((n + 1 : Nat) : Int) := by rw [wrap_i64 (n := (n : Int) + 1) (by omega) (by omega)]; omega
  have ene : IntKind.wrap .i64 ((n : Int) + (e : Int)) = ((n + e : Nat) : Int) := by rw [wrap_i64 (by omega) (by omega)]; omega
  simp only [Tree.den, E.den, P1.den, P2.den, P3.den, List.map_cons, List.map_nil, List.cons_append, List.nil_append, List.getD_cons_zero, List.getD_cons_succ, List.getElem?_cons_zero, List.getElem?_cons_succ, asInt_int, asBool_bool, asStr_str, asList_list, cells_agg, TV.cell, pre_zero, pre_succ, post_zero, post_succ, decide_eq_true_eq, decide_eq_false_iff_not, beq_iff_eq, beq_eq_false_iff_ne, Bool.not_eq_true', Bool.not_eq_false', ne_eq, List.length_cons, List.length_nil, forall_eq, Bool.false_eq_true, Bool.true_eq_false, Int.reduceToNat, Option.some.injEq, exists_eq_left', ints_asList, map_snoc, map_app, list_map, ints_nil, ints_get, ints_len, bs_get, Int.toNat_natCast, List.length_append, List.length_map, bs_length, awake_all, hD, e64, en1, ene, mark_all, width_all, split_all]
  refine ⟨fun hlt => ⟨by omega, by omega, mark_pre trivial, ?_⟩, fun hlt => ⟨split_pre ⟨hr, by omega⟩, ?_⟩⟩
  · have hkl' : k < l.length := by omega
    have hs : splitZ (l.take (k + 1)) = stepS (splitZ (l.take k)) (l.getD k 0) := by rw [take_snoc hkl', splitZ_snoc]
    generalize l.getD k 0 = r at *
    generalize splitZ (l.take k) = cs at *
    have go : ∀ (n' e' : Nat), (stepS cs r).length = n' + e' → e' ≤ 1 → GI l [.int (n' : Int), .int (e' : Int), .int ((k + 1 : Nat) : Int)] ∧ Gm l [.int (n' : Int), .int (e' : Int), .int ((k + 1 : Nat) : Int)] < l.length - k := fun n' e' h1 h2 => by
      refine ⟨⟨k + 1, n', e', rfl, by omega, by rw [hs]; exact h1, h2⟩, ?_⟩
      simp only [Gm, List.getD_cons_zero, List.getD_cons_succ, asInt_int]; omega
    refine ⟨fun hm => ⟨fun h0 => go n 1 ?_ (by omega), fun h0 => go n e ?_ he1⟩, fun hm => ⟨by omega, by omega, width_pre trivial, fun hw => go (n + 1) e ?_ he1, fun hw => go n e ?_ he1⟩⟩
    · by_cases hc : cs = []
      · subst hc
        rw [step_nil hm]
        simp at hne ⊢
        omega
      · rw [stepS_len_mark hm hc]
        have : 0 < cs.length := List.length_pos_iff.2 hc
        omega
    · have hc : cs ≠ [] := fun hc => by subst hc; simp at hne; omega
      rw [stepS_len_mark hm hc]
      exact hne
    · rw [step_base hw, List.length_append, List.length_singleton]; omega
    · rcases width_cases r with ⟨h1, h2⟩ | ⟨h1, h2⟩ | ⟨h1, h2, h3⟩
      · rw [step_ctrl (by omega)]; exact hne
      · rw [h2] at hm; cases hm
      · omega
  · have hkk : k = l.length := by omega
    rw [hkk, List.take_of_length_le (Nat.le_refl _)] at hne
    have hsl := split_len l
    have hinv := split_inv l
    generalize splitZ l = cs at *
    have hml : (cs.map encS).length = cs.length := List.length_map _
    refine ⟨EI' cs.length, Em' cs.length, ⟨0, rfl, by omega⟩, ?_⟩
    rintro ys _ ⟨j, rfl, hj⟩
    have hE : Em' cs.length [.int (j : Int)] = cs.length - j := rfl
    have ej : IntKind.wrap .i64 ((j : Int) + 1) = ((j + 1 : Nat) : Int) := by rw [wrap_i64 (n := (j : Int) + 1) (by omega) (by omega)]; omega
    by_cases hjl : j < cs.length
    · have g := strs_getD (cs.map encS) (i := j) (by omega)
      obtain ⟨g1, g2⟩ := map_getD hjl
      rw [g1] at g
      have hcl := hinv _ g2
      have hck := check_encS hcl
      have hln := (encS_len (cs.getD j [])).2
      have := hcl.len
      simp only [Tree.den, E.den, P1.den, P2.den, P3.den, List.map_cons, List.map_nil, List.cons_append, List.nil_append, List.getD_cons_zero, List.getD_cons_succ, List.getElem?_cons_zero, List.getElem?_cons_succ, asInt_int, asBool_bool, asStr_str, asList_list, cells_agg, TV.cell, pre_zero, pre_succ, post_zero, post_succ, decide_eq_true_eq, decide_eq_false_iff_not, beq_iff_eq, beq_eq_false_iff_ne, Bool.not_eq_true', Bool.not_eq_false', ne_eq, List.length_cons, List.length_nil, forall_eq, Bool.false_eq_true, Bool.true_eq_false, Int.reduceToNat, Option.some.injEq, exists_eq_left', ints_asList, map_snoc, map_app, list_map, ints_nil, ints_get, ints_len, bs_get, Int.toNat_natCast, List.length_append, List.length_map, bs_length, awake_all, hE, ej, ene, strs_asList, g, check_all, hck]
      refine ⟨fun _ => ⟨by omega, by omega, check_pre (by omega), fun h => absurd trivial h, fun _ => ⟨⟨j + 1, rfl, by omega⟩, ?_⟩⟩, fun h => by omega⟩
      simp only [Em', List.getD_cons_zero, asInt_int]; omega
    · simp only [Tree.den, E.den, P1.den, P2.den, P3.den, List.map_cons, List.map_nil, List.cons_append, List.nil_append, List.getD_cons_zero, List.getD_cons_succ, List.getElem?_cons_zero, List.getElem?_cons_succ, asInt_int, asBool_bool, asStr_str, asList_list, cells_agg, TV.cell, pre_zero, pre_succ, post_zero, post_succ, decide_eq_true_eq, decide_eq_false_iff_not, beq_iff_eq, beq_eq_false_iff_ne, Bool.not_eq_true', Bool.not_eq_false', ne_eq, List.length_cons, List.length_nil, forall_eq, Bool.false_eq_true, Bool.true_eq_false, Int.reduceToNat, Option.some.injEq, exists_eq_left', ints_asList, map_snoc, map_app, list_map, ints_nil, ints_get, ints_len, bs_get, Int.toNat_natCast, List.length_append, List.length_map, bs_length, awake_all, hE, ej, ene, strs_asList]
      exact ⟨fun h => by omega, fun _ => ⟨fun _ => ⟨awake_pre, rfl⟩, fun h => absurd (by omega) h⟩⟩)) rfl

/-! ### Idempotent -/
theorem decT_encS (X : List Int) : decT (encS X) = .agg [ints (X.map chZ), .str []] := by
  unfold decT
  rw [dec_encS]
  rfl
theorem flat_chZ (cs : List (List Int)) : cs.flatten.map chZ = (cs.map (·.map chZ)).flatten := by rw [List.map_flatten]
theorem split_again {cs : List (List Int)} (h : ∀ c ∈ cs, Cl c) : (splitZ (cs.flatten.map chZ)).map encS = cs.map encS := by
  rw [flat_chZ, split_cls (fun c hc => by
    obtain ⟨d, hd, rfl⟩ := List.mem_map.1 hc
    exact cl_chZ (h d hd)), List.map_map]
  exact List.map_congr_left fun c _ => encS_chZ c
theorem flat_len {cs : List (List Int)} (h : ∀ c ∈ cs, Cl c) : cs.flatten.length ≤ 4 * cs.length := by
  induction cs with
  | nil => simp
  | cons c cs ih =>
    have h1 := (h c (by simp)).len
    have h2 := ih fun d hd => h d (by simp [hd])
    rw [List.flatten_cons, List.length_append, List.length_cons]
    omega
theorem lawIdem_c (k : Nat) : Contract Tryd.prog (mkEnv globT []) gtab (sn_law03_ClusterIdempotent k) (trueL runesP).pre (trueL runesP).post := Contract.env (Γ := mkEnv globT [decodeL, splitL, samesL, awakeL, joinL]) (contract_law03_ClusterIdempotent (fun _ => rfl) (fun s hs => by
    simp only [cx_law03_ClusterIdempotent, List.mem_cons, List.not_mem_nil, or_false] at hs
    rcases hs with rfl | rfl | rfl | rfl | rfl
    · exact Contract.inEnv rfl (decode_c 0) rfl
    · exact Contract.inEnv rfl (split_c 1) rfl
    · exact Contract.inEnv rfl (sames_c 2) rfl
    · exact Contract.inEnv rfl (awake_c 3) rfl
    · exact Contract.inEnv rfl (join_c 4) rfl) k (by
  rintro ts hl ⟨l, rfl, hr⟩
  unfold tr_law03_ClusterIdempotent
  have hsl := split_len l
  have hinv := split_inv l
  simp only [Tree.den, E.den, P1.den, P2.den, P3.den, List.map_cons, List.map_nil, List.cons_append, List.nil_append, List.getD_cons_zero, List.getD_cons_succ, List.getElem?_cons_zero, List.getElem?_cons_succ, asInt_int, asBool_bool, asStr_str, asList_list, cells_agg, TV.cell, pre_zero, pre_succ, post_zero, post_succ, decide_eq_true_eq, decide_eq_false_iff_not, beq_iff_eq, beq_eq_false_iff_ne, Bool.not_eq_true', Bool.not_eq_false', ne_eq, List.length_cons, List.length_nil, forall_eq, Bool.false_eq_true, Bool.true_eq_false, Int.reduceToNat, Option.some.injEq, exists_eq_left', awake_all, split_all]
  generalize splitZ l = cs at *
  have hfl := flat_len hinv
  have hel := (encS_len cs.flatten).2
  have hag := split_again hinv
  simp only [Tree.den, E.den, P1.den, P2.den, P3.den, List.map_cons, List.map_nil, List.cons_append, List.nil_append, List.getD_cons_zero, List.getD_cons_succ, List.getElem?_cons_zero, List.getElem?_cons_succ, asInt_int, asBool_bool, asStr_str, asList_list, cells_agg, TV.cell, pre_zero, pre_succ, post_zero, post_succ, decide_eq_true_eq, decide_eq_false_iff_not, beq_iff_eq, beq_eq_false_iff_ne, Bool.not_eq_true', Bool.not_eq_false', ne_eq, List.length_cons, List.length_nil, forall_eq, Bool.false_eq_true, Bool.true_eq_false, Int.reduceToNat, Option.some.injEq, exists_eq_left', ints_asList, map_snoc, map_app, list_map, ints_nil, ints_get, ints_len, bs_get, Int.toNat_natCast, List.length_append, List.length_map, bs_length, awake_all, join_all, encS_flatten]
  simp only [Tree.den, E.den, P1.den, P2.den, P3.den, List.map_cons, List.map_nil, List.cons_append, List.nil_append, List.getD_cons_zero, List.getD_cons_succ, List.getElem?_cons_zero, List.getElem?_cons_succ, asInt_int, asBool_bool, asStr_str, asList_list, cells_agg, TV.cell, pre_zero, pre_succ, post_zero, post_succ, decide_eq_true_eq, decide_eq_false_iff_not, beq_iff_eq, beq_eq_false_iff_ne, Bool.not_eq_true', Bool.not_eq_false', ne_eq, List.length_cons, List.length_nil, forall_eq, Bool.false_eq_true, Bool.true_eq_false, Int.reduceToNat, Option.some.injEq, exists_eq_left', decode_all, List.nil_append, decT_encS, awake_all, split_all, hag, sames_all]
  refine ⟨fun _ => ⟨awake_pre, rfl⟩, fun h100 => ⟨split_pre ⟨hr, by omega⟩, join_pre ⟨by rw [List.length_map]; omega, fun s hs => ?_⟩, decode_pre (by rw [List.length_nil]; omega), fun _ => ⟨split_pre ⟨(chZs_ch _).run, by rw [List.length_map]; omega⟩, sames_pre (by rw [List.length_map]; omega), fun _ => ⟨awake_pre, rfl⟩, fun h => (by simp at h)⟩, fun h => absurd trivial h⟩⟩
  obtain ⟨c, hc, rfl⟩ := List.mem_map.1 hs
  have h1 := (hinv c hc).len
  have h2 := (encS_len c).2
  omega)) rfl

/-! ### Widths -/
def sumW : List (List Int) → Int
  | [] => 0
  | c :: cs => widthZ (headZ c) + sumW cs
theorem sumW_append (a b : List (List Int)) : sumW (a ++ b) = sumW a + sumW b := by
  induction a with
  | nil => simp [sumW]
  | cons c a ih => rw [List.cons_append, sumW, sumW, ih]; omega
theorem sumW_bd {cs : List (List Int)} (h : ∀ c ∈ cs, Cl c) : 0 ≤ sumW cs ∧ sumW cs ≤ 2 * cs.length := by
  induction cs with
  | nil => simp [sumW]
  | cons c cs ih =>
    have h2 := ih fun d hd => h d (by simp [hd])
    obtain ⟨b, ms, rfl, hb, _⟩ := h c (by simp)
    rw [sumW, List.length_cons]
    have : headZ (b :: ms) = b := rfl
    rw [this]
    rcases width_cases b with ⟨h1, _⟩ | ⟨h1, _⟩ | ⟨h1, h3, _⟩ <;> omega
theorem sumW_mark {o : List (List Int)} {r : Int} (h : markZ r = true) (hne : o ≠ []) (hi : ∀ c ∈ o, Cl c) : sumW (stepS o r) = sumW o := by
  rcases last_cases o with rfl | ⟨p, c, rfl⟩
  · exact absurd rfl hne
  · by_cases hl : c.length ≤ 3
    · rw [step_mark h hl, sumW_append, sumW_append]
      obtain ⟨b, ms, rfl, _⟩ := hi c (by simp)
      rfl
    · rw [step_full h hl]
def WI (l : List Int) (xs : List TV) : Prop := ∃ k n : Nat, xs = [.int (sumW (splitZ (l.take k))), .int n, .int k] ∧ k ≤ l.length ∧ n ≤ k ∧ (n = 0 ↔ splitZ (l.take k) = [])
def WI2 (cs : List (List Int)) (xs : List TV) : Prop := ∃ j : Nat, xs = [.int (sumW (cs.drop j)), .int j] ∧ j ≤ cs.length
def Wm2 (n : Nat) (xs : List TV) : Nat := n - (xs.getD 1 (.int 0)).asInt.toNat
theorem lawWidths_c (k : Nat) : Contract Tryd.prog (mkEnv globT []) gtab (sn_law03_ClusterWidths k) (trueL runesP).pre (trueL runesP).post := Contract.env (Γ := mkEnv globT [markL, widthL, cwidthL, splitL, awakeL]) (contract_law03_ClusterWidths (fun _ => rfl) (fun s hs => by
    simp only [cx_law03_ClusterWidths, List.mem_cons, List.not_mem_nil, or_false] at hs
    rcases hs with rfl | rfl | rfl | rfl | rfl
    · exact Contract.inEnv rfl (mark_c 0) rfl
    · exact Contract.inEnv rfl (width_c 1) rfl
    · exact Contract.inEnv rfl (cwidth_c 2) rfl
    · exact Contract.inEnv rfl (split_c 3) rfl
    · exact Contract.inEnv rfl (awake_c 4) rfl) k (by
  rintro ts hl ⟨l, rfl, hr⟩
  unfold tr_law03_ClusterWidths
  simp only [Tree.den, E.den, P1.den, P2.den, P3.den, List.map_cons, List.map_nil, List.cons_append, List.nil_append, List.getD_cons_zero, List.getD_cons_succ, List.getElem?_cons_zero, List.getElem?_cons_succ, asInt_int, asBool_bool, asStr_str, asList_list, cells_agg, TV.cell, pre_zero, pre_succ, post_zero, post_succ, decide_eq_true_eq, decide_eq_false_iff_not, beq_iff_eq, beq_eq_false_iff_ne, Bool.not_eq_true', Bool.not_eq_false', ne_eq, List.length_cons, List.length_nil, forall_eq, Bool.false_eq_true, Bool.true_eq_false, Int.reduceToNat, Option.some.injEq, exists_eq_left', awake_all]
  simp only [Tree.den, E.den, P1.den, P2.den, P3.den, List.map_cons, List.map_nil, List.cons_append, List.nil_append, List.getD_cons_zero, List.getD_cons_succ, List.getElem?_cons_zero, List.getElem?_cons_succ, asInt_int, asBool_bool, asStr_str, asList_list, cells_agg, TV.cell, pre_zero, pre_succ, post_zero, post_succ, decide_eq_true_eq, decide_eq_false_iff_not, beq_iff_eq, beq_eq_false_iff_ne, Bool.not_eq_true', Bool.not_eq_false', ne_eq, List.length_cons, List.length_nil, forall_eq, Bool.false_eq_true, Bool.true_eq_false, Int.reduceToNat, Option.some.injEq, exists_eq_left', ints_asList, map_snoc, map_app, list_map, ints_nil, ints_get, ints_len, bs_get, Int.toNat_natCast, List.length_append, List.length_map, bs_length, awake_all]
  refine ⟨fun _ => ⟨awake_pre, rfl⟩, fun h100 => ⟨WI l, Gm l, ⟨0, 0, rfl, by omega, by omega, by simp [splitZ, splitF]⟩, ?_⟩⟩
  rintro xs _ ⟨k, n, rfl, hk, hnk, hn0⟩
  have hD : ∀ a b, Gm l [a, b, .int (k : Int)] = l.length - k := fun a b => rfl
  have hkl := split_len (l.take k)
  rw [List.length_take] at hkl
  have hinv := split_inv (l.take k)
  have hbd := sumW_bd hinv
  have e64 : IntKind.wrap .i64 ((k : Int) + 1) = ((k + 1 : Nat) : Int) := by rw [wrap_i64 (n := (k : Int) + 1) (by omega) (by omega)]; omega
  have en1 : IntKind.wrap .i64 ((n : Int) + 1) = ((n + 1 : Nat) : Int) := by rw [wrap_i64 (n := (n : Int) + 1) (by omega) (by omega)]; omega
  have ew1 : IntKind.wrap .i64 (sumW (splitZ (l.take k)) + 1) = sumW (splitZ (l.take k)) + 1 := wrap_i64 (by omega) (by omega)
  have hwd := width_cases (l.getD k 0)
  have eww : IntKind.wrap .i64 (sumW (splitZ (l.take k)) + widthZ (l.getD k 0)) = sumW (splitZ (l.take k)) + widthZ (l.getD k 0) := wrap_i64 (by omega) (by omega)
  simp only [Tree.den, E.den, P1.den, P2.den, P3.den, List.map_cons, List.map_nil, List.cons_append, List.nil_append, List.getD_cons_zero, List.getD_cons_succ, List.getElem?_cons_zero, List.getElem?_cons_succ, asInt_int, asBool_bool, asStr_str, asList_list, cells_agg, TV.cell, pre_zero, pre_succ, post_zero, post_succ, decide_eq_true_eq, decide_eq_false_iff_not, beq_iff_eq, beq_eq_false_iff_ne, Bool.not_eq_true', Bool.not_eq_false', ne_eq, List.length_cons, List.length_nil, forall_eq, Bool.false_eq_true, Bool.true_eq_false, Int.reduceToNat, Option.some.injEq, exists_eq_left', ints_asList, map_snoc, map_app, list_map, ints_nil, ints_get, ints_len, bs_get, Int.toNat_natCast, List.length_append, List.length_map, bs_length, awake_all, hD, e64, en1, ew1, eww, mark_all, width_all, split_all]
  refine ⟨fun hlt => ⟨by omega, by omega, mark_pre trivial, ?_⟩, fun hlt => ⟨split_pre ⟨hr, by omega⟩, ?_⟩⟩
  · have hkl' : k < l.length := by omega
    have hs : splitZ (l.take (k + 1)) = stepS (splitZ (l.take k)) (l.getD k 0) := by rw [take_snoc hkl', splitZ_snoc]
    generalize l.getD k 0 = r at *
    generalize splitZ (l.take k) = cs at *
    have go : ∀ (w : Int) (n' : Nat), w = sumW (stepS cs r) → n' ≤ k + 1 → (n' = 0 ↔ stepS cs r = []) → WI l [.int w, .int (n' : Int), .int ((k + 1 : Nat) : Int)] ∧ Gm l [.int w, .int (n' : Int), .int ((k + 1 : Nat) : Int)] < l.length - k := fun w n' h1 h2 h3 => by
      refine ⟨⟨k + 1, n', by rw [hs, ← h1], by omega, h2, by rw [hs]; exact h3⟩, ?_⟩
      simp only [Gm, List.getD_cons_zero, List.getD_cons_succ, asInt_int]; omega
    refine ⟨fun hm => ⟨fun h0 => go _ 1 ?_ (by omega) ?_, fun h0 => go _ n ?_ (by omega) ?_⟩, fun hm => ⟨by omega, by omega, width_pre trivial, fun hw => go _ (n + 1) ?_ (by omega) ?_, fun hw => go _ n ?_ (by omega) ?_⟩⟩
    · have hc := hn0.1 (by omega)
      subst hc
      rw [step_nil hm]
      simp only [sumW, headZ, List.getD_cons_zero, width32]
      omega
    · have hc := hn0.1 (by omega)
      subst hc
      rw [step_nil hm]
      simp
    · have hc : cs ≠ [] := fun hc => by have := hn0.2 hc; omega
      rw [sumW_mark hm hc hinv]
    · have hc : cs ≠ [] := fun hc => by have := hn0.2 hc; omega
      have h1 := stepS_len_mark hm hc
      have h2 : 0 < cs.length := List.length_pos_iff.2 hc
      exact ⟨fun h => by omega, fun h => by rw [h] at h1; simp at h1; omega⟩
    · rw [step_base hw, sumW_append]
      simp only [sumW, headZ, List.getD_cons_zero]
      omega
    · rw [step_base hw]
      simp
    · rcases hwd with ⟨h1, h2⟩ | ⟨h1, h2⟩ | ⟨h1, h2, h3⟩
      · rw [step_ctrl (by omega)]
      · rw [h2] at hm; cases hm
      · omega
    · rcases hwd with ⟨h1, h2⟩ | ⟨h1, h2⟩ | ⟨h1, h2, h3⟩
      · rw [step_ctrl (by omega)]; exact hn0
      · rw [h2] at hm; cases hm
      · omega
  · have hkk : k = l.length := by omega
    have hsl := split_len l
    rw [hkk, List.take_of_length_le (Nat.le_refl _)]
    rw [hkk, List.take_of_length_le (Nat.le_refl _)] at hinv
    generalize splitZ l = cs at *
    have hml : (cs.map encS).length = cs.length := List.length_map _
    refine ⟨WI2 cs, Wm2 cs.length, ⟨0, rfl, by omega⟩, ?_⟩
    rintro ys _ ⟨j, rfl, hj⟩
    have hE : ∀ a, Wm2 cs.length [a, .int (j : Int)] = cs.length - j := fun a => rfl
    have ej : IntKind.wrap .i64 ((j : Int) + 1) = ((j + 1 : Nat) : Int) := by rw [wrap_i64 (n := (j : Int) + 1) (by omega) (by omega)]; omega
    have hbd2 := sumW_bd (cs := cs.drop j) fun c hc => hinv c (List.mem_of_mem_drop hc)
    rw [List.length_drop] at hbd2
    by_cases hjl : j < cs.length
    · have g := strs_getD (cs.map encS) (i := j) (by omega)
      obtain ⟨g1, g2⟩ := map_getD hjl
      rw [g1] at g
      have hcl := hinv _ g2
      have hck := width_encS hcl
      have hln := (encS_len (cs.getD j [])).2
      have := hcl.len
      have hdr : cs.drop j = cs.getD j [] :: cs.drop (j + 1) := by
        rw [List.drop_eq_getElem_cons hjl, List.getD_eq_getElem?_getD, List.getElem?_eq_getElem hjl]
        rfl
      have hsub : IntKind.wrap .i64 (sumW (cs.drop j) - widthZ (headZ (cs.getD j []))) = sumW (cs.drop (j + 1)) := by
        have hb3 := sumW_bd (cs := cs.drop (j + 1)) fun c hc => hinv c (List.mem_of_mem_drop hc)
        rw [List.length_drop] at hb3
        rw [hdr, sumW, wrap_i64 (by omega) (by omega)]
        omega
      simp only [Tree.den, E.den, P1.den, P2.den, P3.den, List.map_cons, List.map_nil, List.cons_append, List.nil_append, List.getD_cons_zero, List.getD_cons_succ, List.getElem?_cons_zero, List.getElem?_cons_succ, asInt_int, asBool_bool, asStr_str, asList_list, cells_agg, TV.cell, pre_zero, pre_succ, post_zero, post_succ, decide_eq_true_eq, decide_eq_false_iff_not, beq_iff_eq, beq_eq_false_iff_ne, Bool.not_eq_true', Bool.not_eq_false', ne_eq, List.length_cons, List.length_nil, forall_eq, Bool.false_eq_true, Bool.true_eq_false, Int.reduceToNat, Option.some.injEq, exists_eq_left', ints_asList, map_snoc, map_app, list_map, ints_nil, ints_get, ints_len, bs_get, Int.toNat_natCast, List.length_append, List.length_map, bs_length, awake_all, hE, ej, strs_asList, g, cwidth_all, hck, hsub]
      refine ⟨fun _ => ⟨by omega, by omega, cwidth_pre (by omega), ⟨j + 1, rfl, by omega⟩, ?_⟩, fun h => by omega⟩
      simp only [Wm2, List.getD_cons_zero, List.getD_cons_succ, asInt_int]; omega
    · have hd0 : cs.drop j = [] := List.drop_of_length_le (by omega)
      have hs0 : sumW (cs.drop j) = 0 := by rw [hd0]; rfl
      simp only [Tree.den, E.den, P1.den, P2.den, P3.den, List.map_cons, List.map_nil, List.cons_append, List.nil_append, List.getD_cons_zero, List.getD_cons_succ, List.getElem?_cons_zero, List.getElem?_cons_succ, asInt_int, asBool_bool, asStr_str, asList_list, cells_agg, TV.cell, pre_zero, pre_succ, post_zero, post_succ, decide_eq_true_eq, decide_eq_false_iff_not, beq_iff_eq, beq_eq_false_iff_ne, Bool.not_eq_true', Bool.not_eq_false', ne_eq, List.length_cons, List.length_nil, forall_eq, Bool.false_eq_true, Bool.true_eq_false, Int.reduceToNat, Option.some.injEq, exists_eq_left', ints_asList, map_snoc, map_app, list_map, ints_nil, ints_get, ints_len, bs_get, Int.toNat_natCast, List.length_append, List.length_map, bs_length, awake_all, hE, ej, strs_asList, hs0]
      exact ⟨fun h => by omega, fun _ => ⟨fun _ => ⟨awake_pre, rfl⟩, fun h => absurd trivial h⟩⟩)) rfl
end Go.Proofs.YtnbbepgmnbmfdaaDoor
