/- The contracts of package cluster and of its reference. -/
import Derived.Test.YtnbbepgmnbmfdaaDoorClu
import Derived.Test.YtnbbepgmnbmfdaaDoorK1
import Derived.Test.YtnbbepgmnbmfdaaDoorEnu
import Derived.Test.YtnbbepgmnbmfdaaDoorVsd
namespace Go.Proofs.YtnbbepgmnbmfdaaDoor
set_option linter.unusedSimpArgs false
set_option linter.unusedVariables false
set_option linter.unusedSectionVars false

theorem ints_sub (l : List Int) (i j : Nat) : TV.list (((l.map TV.int).drop i).take j) = ints ((l.drop i).take j) := by unfold ints; rw [List.map_take, List.map_drop]
theorem ints_drop (l : List Int) (i : Nat) : TV.list (((l.map TV.int).drop i).take (l.length - i)) = ints (l.drop i) := by rw [ints_sub, List.take_of_length_le (by rw [List.length_drop]; omega)]
theorem encS_def (c : List Int) : unbs (encZ c) = encS c := rfl
theorem run_one {r : Int} (h : -2147483648 ≤ r ∧ r ≤ 2147483647) : Run [r] := fun n hn => by simp at hn; subst hn; exact h
def validL : Law := ⟨fun ts => ∃ (s : List UInt8), ts = [.str s] ∧ (s.length ≤ 9223372036854775807), fun ts z₀ => ∀ (s : List UInt8), ts = [.str s] → z₀ = .bool (Lib.validD s)⟩
theorem valid_pre {s : List UInt8} (h : s.length ≤ 9223372036854775807) : validL.pre [.str s] := ⟨s, rfl, h⟩
theorem valid_fin {s : List UInt8} {z₀ : TV} (h : z₀ = .bool (Lib.validD s)) : validL.post [.str s] z₀ := fun s₁ e => by
  simp only [List.cons.injEq, TV.str.injEq, TV.int.injEq, TV.bool.injEq, TV.agg.injEq, TV.list.injEq, ints_eq, and_true, true_and, and_assoc] at e; subst e
  exact h
theorem valid_all {s : List UInt8} {Q : TV → Prop} : (∀ z₀, validL.post [.str s] z₀ → Q z₀) ↔ Q (.bool (Lib.validD s)) := ⟨fun h => h _ (valid_fin rfl), fun h z₀ hr => by rw [hr _ rfl]; exact h⟩
theorem valid_c (k : Nat) : Contract Tryd.prog (mkEnv globT []) gtabU (sn_utf8stream_Valid k) validL.pre validL.post := Contract.env (Γ := mkEnv globT [validSL]) (contract_utf8stream_Valid (fun _ => rfl) (fun s hs => by
    simp only [cx_utf8stream_Valid, List.mem_cons, List.not_mem_nil, or_false] at hs
    rcases hs with rfl
    · exact Contract.inEnv rfl (validS_c 0) rfl) k (by
  rintro ts hl ⟨s, rfl, hp⟩
  have hfin : ∀ z₀ : TV, z₀ = .bool (Lib.validD s) → validL.post [.str s] z₀ := fun z₀ h => valid_fin h
  generalize validL.post [.str s] = R at hfin ⊢
  unfold tr_utf8stream_Valid
  simp only [Tree.den, E.den, P1.den, P2.den, P3.den, List.map_cons, List.map_nil, List.cons_append, List.nil_append, List.getD_cons_zero, List.getD_cons_succ, List.getElem?_cons_zero, List.getElem?_cons_succ, asInt_int, asBool_bool, asStr_str, asList_list, cells_agg, TV.cell, pre_zero, pre_succ, post_zero, post_succ, decide_eq_true_eq, decide_eq_false_iff_not, beq_iff_eq, beq_eq_false_iff_ne, Bool.not_eq_true', Bool.not_eq_false', ne_eq, List.length_cons, List.length_nil, forall_eq, Bool.false_eq_true, Bool.true_eq_false, Int.reduceToNat, Option.some.injEq, exists_eq_left', validS_all]
  exact ⟨validS_pre hp, hfin _ rfl⟩)) rfl
def markedL : Law := ⟨fun ts => ∃ (l : List Int), ts = [ints l] ∧ (l.length ≤ 1000000), fun ts z₀ => ∀ (l : List Int), ts = [ints l] → z₀ = .bool (l.all markZ)⟩
theorem marked_pre {l : List Int} (h : l.length ≤ 1000000) : markedL.pre [ints l] := ⟨l, rfl, h⟩
theorem marked_fin {l : List Int} {z₀ : TV} (h : z₀ = .bool (l.all markZ)) : markedL.post [ints l] z₀ := fun l₁ e => by
  simp only [List.cons.injEq, TV.str.injEq, TV.int.injEq, TV.bool.injEq, TV.agg.injEq, TV.list.injEq, ints_eq, and_true, true_and, and_assoc] at e; subst e
  exact h
theorem marked_all {l : List Int} {Q : TV → Prop} : (∀ z₀, markedL.post [ints l] z₀ → Q z₀) ↔ Q (.bool (l.all markZ)) := ⟨fun h => h _ (marked_fin rfl), fun h z₀ hr => by rw [hr _ rfl]; exact h⟩
def MI (l : List Int) (xs : List TV) : Prop := ∃ k : Nat, xs = [.int k] ∧ k ≤ l.length ∧ l.all markZ = (l.drop k).all markZ
def Mm (l : List Int) (xs : List TV) : Nat := l.length - (xs.getD 0 (.int 0)).asInt.toNat
theorem all_drop {l : List Int} {k : Nat} (h : k < l.length) (p : Int → Bool) : (l.drop k).all p = (p (l.getD k 0) && (l.drop (k + 1)).all p) := by
  rw [List.drop_eq_getElem_cons h, List.all_cons, List.getD_eq_getElem?_getD, List.getElem?_eq_getElem h]
  rfl
theorem marked_c (k : Nat) : Contract Tryd.prog (mkEnv globT []) gtab (sn_cluster_marked k) markedL.pre markedL.post := Contract.env (Γ := mkEnv globT [markL]) (contract_cluster_marked (fun _ => rfl) (fun s hs => by
    simp only [cx_cluster_marked, List.mem_cons, List.not_mem_nil, or_false] at hs
    rcases hs with rfl
    · exact Contract.inEnv rfl (mark_c 0) rfl) k (by
  rintro ts hl ⟨l, rfl, hp⟩
  have hfin : ∀ z₀ : TV, z₀ = .bool (l.all markZ) → markedL.post [ints l] z₀ := fun z₀ h => marked_fin h
  generalize markedL.post [ints l] = R at hfin ⊢
  unfold tr_cluster_marked
  simp only [Tree.den, E.den, P1.den, P2.den, P3.den, List.map_cons, List.map_nil, List.cons_append, List.nil_append, List.getD_cons_zero, List.getD_cons_succ, List.getElem?_cons_zero, List.getElem?_cons_succ, asInt_int, asBool_bool, asStr_str, asList_list, cells_agg, TV.cell, pre_zero, pre_succ, post_zero, post_succ, decide_eq_true_eq, decide_eq_false_iff_not, beq_iff_eq, beq_eq_false_iff_ne, Bool.not_eq_true', Bool.not_eq_false', ne_eq, List.length_cons, List.length_nil, forall_eq, Bool.false_eq_true, Bool.true_eq_false, Int.reduceToNat, Option.some.injEq, exists_eq_left']
  simp only [Tree.den, E.den, P1.den, P2.den, P3.den, List.map_cons, List.map_nil, List.cons_append, List.nil_append, List.getD_cons_zero, List.getD_cons_succ, List.getElem?_cons_zero, List.getElem?_cons_succ, asInt_int, asBool_bool, asStr_str, asList_list, cells_agg, TV.cell, pre_zero, pre_succ, post_zero, post_succ, decide_eq_true_eq, decide_eq_false_iff_not, beq_iff_eq, beq_eq_false_iff_ne, Bool.not_eq_true', Bool.not_eq_false', ne_eq, List.length_cons, List.length_nil, forall_eq, Bool.false_eq_true, Bool.true_eq_false, Int.reduceToNat, Option.some.injEq, exists_eq_left', ints_asList, map_snoc, map_app, list_map, ints_nil, ints_get, ints_len, bs_get, Int.toNat_natCast, List.length_append, List.length_map, bs_length]
  refine ⟨MI l, Mm l, ⟨0, rfl, by omega, by rw [List.drop_zero]⟩, ?_⟩
  rintro xs _ ⟨k, rfl, hk, he⟩
  have hD : Mm l [.int (k : Int)] = l.length - k := rfl
  have e64 : IntKind.wrap .i64 ((k : Int) + 1) = ((k + 1 : Nat) : Int) := by rw [wrap_i64 (n := (k : Int) + 1) (by omega) (by omega)]; omega
  simp only [Tree.den, E.den, P1.den, P2.den, P3.den, List.map_cons, List.map_nil, List.cons_append, List.nil_append, List.getD_cons_zero, List.getD_cons_succ, List.getElem?_cons_zero, List.getElem?_cons_succ, asInt_int, asBool_bool, asStr_str, asList_list, cells_agg, TV.cell, pre_zero, pre_succ, post_zero, post_succ, decide_eq_true_eq, decide_eq_false_iff_not, beq_iff_eq, beq_eq_false_iff_ne, Bool.not_eq_true', Bool.not_eq_false', ne_eq, List.length_cons, List.length_nil, forall_eq, Bool.false_eq_true, Bool.true_eq_false, Int.reduceToNat, Option.some.injEq, exists_eq_left', ints_asList, map_snoc, map_app, list_map, ints_nil, ints_get, ints_len, bs_get, Int.toNat_natCast, List.length_append, List.length_map, bs_length, hD, e64, mark_all]
  refine ⟨fun hlt => ⟨by omega, by omega, mark_pre trivial, fun h => hfin _ ?_, fun h => ⟨⟨k + 1, rfl, by omega, ?_⟩, ?_⟩⟩, fun hlt => hfin _ ?_⟩
  · rw [he, all_drop (by omega), h]; rfl
  · rw [he, all_drop (by omega), h]; rfl
  · simp only [Mm, List.getD_cons_zero, asInt_int]; omega
  · rw [he, List.drop_of_length_le (by omega)]; rfl)) rfl
theorem checkZ_nil : checkZ [] = 3 := by unfold checkZ; rw [if_pos (.inl rfl)]
theorem checkZ_inv {s : List UInt8} (h : ¬ validB s) : checkZ s = 3 := by unfold checkZ; rw [if_pos (.inr (by rw [validD_iff]; exact h))]
theorem checkZ_val {s : List UInt8} (hn : s ≠ []) (h : validB s) : checkZ s = checkR (runesS s) := by
  unfold checkZ
  rw [if_neg (by rw [validD_iff]; exact fun e => e.elim hn fun e => e h)]
theorem validD_false {s : List UInt8} (h : ¬ validB s) : Lib.validD s = false := by
  cases hv : Lib.validD s with
  | false => rfl
  | true => exact absurd ((validD_iff s).1 hv) h
theorem runesOf {s : List UInt8} (h : validB s) : TV.list (runeList s) = ints (runesS s) := by rw [runeList_valid h]; rfl
theorem runes_pos {s : List UInt8} (hn : s ≠ []) (h : validB s) : 0 < (runesS s).length := by
  have : runesS s ≠ [] := fun e => hn ((runes_nil h).1 e)
  exact List.length_pos_iff.2 this
def checkL : Law := ⟨fun ts => ∃ (s : List UInt8), ts = [.str s] ∧ (s.length ≤ 1000000), fun ts z₀ => ∀ (s : List UInt8), ts = [.str s] → z₀ = .int (checkZ s)⟩
theorem check_pre {s : List UInt8} (h : s.length ≤ 1000000) : checkL.pre [.str s] := ⟨s, rfl, h⟩
theorem check_fin {s : List UInt8} {z₀ : TV} (h : z₀ = .int (checkZ s)) : checkL.post [.str s] z₀ := fun s₁ e => by
  simp only [List.cons.injEq, TV.str.injEq, TV.int.injEq, TV.bool.injEq, TV.agg.injEq, TV.list.injEq, ints_eq, and_true, true_and, and_assoc] at e; subst e
  exact h
theorem check_all {s : List UInt8} {Q : TV → Prop} : (∀ z₀, checkL.post [.str s] z₀ → Q z₀) ↔ Q (.int (checkZ s)) := ⟨fun h => h _ (check_fin rfl), fun h z₀ hr => by rw [hr _ rfl]; exact h⟩
theorem check_c (k : Nat) : Contract Tryd.prog (mkEnv globT []) gtab (sn_cluster_Check k) checkL.pre checkL.post := Contract.env (Γ := mkEnv globT [validL, widthL, markedL]) (contract_cluster_Check (fun _ => rfl) (fun s hs => by
    simp only [cx_cluster_Check, List.mem_cons, List.not_mem_nil, or_false] at hs
    rcases hs with rfl | rfl | rfl
    · exact Contract.inEnv rfl (valid_c 0) rfl
    · exact Contract.inEnv rfl (width_c 1) rfl
    · exact Contract.inEnv rfl (marked_c 2) rfl) k (by
  rintro ts hl ⟨s, rfl, hp⟩
  have hfin : ∀ z₀ : TV, z₀ = .int (checkZ s) → checkL.post [.str s] z₀ := fun z₀ h => check_fin h
  generalize checkL.post [.str s] = R at hfin ⊢
  unfold tr_cluster_Check
  by_cases hn : s = []
  · subst hn
    simp only [Tree.den, E.den, P1.den, P2.den, P3.den, List.map_cons, List.map_nil, List.cons_append, List.nil_append, List.getD_cons_zero, List.getD_cons_succ, List.getElem?_cons_zero, List.getElem?_cons_succ, asInt_int, asBool_bool, asStr_str, asList_list, cells_agg, TV.cell, pre_zero, pre_succ, post_zero, post_succ, decide_eq_true_eq, decide_eq_false_iff_not, beq_iff_eq, beq_eq_false_iff_ne, Bool.not_eq_true', Bool.not_eq_false', ne_eq, List.length_cons, List.length_nil, forall_eq, Bool.false_eq_true, Bool.true_eq_false, Int.reduceToNat, Option.some.injEq, exists_eq_left']
    exact ⟨fun _ => hfin _ (by rw [checkZ_nil]), fun h => absurd trivial h⟩
  by_cases hv : validB s
  · have hvt := (validD_iff s).2 hv
    have hrl := runesOf hv
    have hpos := runes_pos hn hv
    have hle := runes_len s
    rw [checkZ_val hn hv] at hfin
    generalize runesS s = l at *
    simp only [Tree.den, E.den, P1.den, P2.den, P3.den, List.map_cons, List.map_nil, List.cons_append, List.nil_append, List.getD_cons_zero, List.getD_cons_succ, List.getElem?_cons_zero, List.getElem?_cons_succ, asInt_int, asBool_bool, asStr_str, asList_list, cells_agg, TV.cell, pre_zero, pre_succ, post_zero, post_succ, decide_eq_true_eq, decide_eq_false_iff_not, beq_iff_eq, beq_eq_false_iff_ne, Bool.not_eq_true', Bool.not_eq_false', ne_eq, List.length_cons, List.length_nil, forall_eq, Bool.false_eq_true, Bool.true_eq_false, Int.reduceToNat, Option.some.injEq, exists_eq_left', valid_all, hvt, hrl, hn]
    simp only [Tree.den, E.den, P1.den, P2.den, P3.den, List.map_cons, List.map_nil, List.cons_append, List.nil_append, List.getD_cons_zero, List.getD_cons_succ, List.getElem?_cons_zero, List.getElem?_cons_succ, asInt_int, asBool_bool, asStr_str, asList_list, cells_agg, TV.cell, pre_zero, pre_succ, post_zero, post_succ, decide_eq_true_eq, decide_eq_false_iff_not, beq_iff_eq, beq_eq_false_iff_ne, Bool.not_eq_true', Bool.not_eq_false', ne_eq, List.length_cons, List.length_nil, forall_eq, Bool.false_eq_true, Bool.true_eq_false, Int.reduceToNat, Option.some.injEq, exists_eq_left', ints_asList, map_snoc, map_app, list_map, ints_nil, ints_get, ints_len, bs_get, Int.toNat_natCast, List.length_append, List.length_map, bs_length, ints_drop, width_all, marked_all]
    have e64 : IntKind.wrap .i64 ((l.length : Int) - 1) = ((l.length - 1 : Nat) : Int) := by rw [wrap_i64 (by omega) (by omega)]; omega
    rw [e64]
    have hh : l.getD 0 0 = headZ l := rfl
    rw [hh]
    unfold checkR at hfin
    refine ⟨fun h => (by simp at h), fun _ => ⟨valid_pre (by omega), fun h => (by simp at h), fun _ => ⟨by omega, by omega, width_pre trivial, fun h1 => hfin _ (by rw [if_pos (.inl h1)]), fun h1 => ⟨by omega, marked_pre (by rw [List.length_drop]; omega), fun h2 => hfin _ (by rw [if_pos (.inr (by rw [h2]; simp))]), fun h2 => ⟨fun h3 => hfin _ ?_, fun h3 => hfin _ ?_⟩⟩⟩⟩⟩
    · rw [if_neg (by rw [h2]; simp; omega), if_pos (by omega)]
    · rw [if_neg (by rw [h2]; simp; omega), if_neg (by omega)]
  · have hvf := validD_false hv
    simp only [Tree.den, E.den, P1.den, P2.den, P3.den, List.map_cons, List.map_nil, List.cons_append, List.nil_append, List.getD_cons_zero, List.getD_cons_succ, List.getElem?_cons_zero, List.getElem?_cons_succ, asInt_int, asBool_bool, asStr_str, asList_list, cells_agg, TV.cell, pre_zero, pre_succ, post_zero, post_succ, decide_eq_true_eq, decide_eq_false_iff_not, beq_iff_eq, beq_eq_false_iff_ne, Bool.not_eq_true', Bool.not_eq_false', ne_eq, List.length_cons, List.length_nil, forall_eq, Bool.false_eq_true, Bool.true_eq_false, Int.reduceToNat, Option.some.injEq, exists_eq_left', valid_all, hvf, hn]
    exact ⟨fun h => (by simp at h), fun _ => ⟨valid_pre (by omega), fun _ => hfin _ (by rw [checkZ_inv hv]), fun h => (by simp at h)⟩⟩)) rfl
def runesC (s : List UInt8) : List Int := if checkZ s = 0 then runesS s else []
theorem runesC_len (s : List UInt8) : (runesC s).length ≤ s.length := by
  unfold runesC
  split
  · exact runes_len s
  · simp
def runesL : Law := ⟨fun ts => ∃ (s : List UInt8), ts = [.str s] ∧ (s.length ≤ 1000000), fun ts z₀ => ∀ (s : List UInt8), ts = [.str s] → z₀ = ints (runesC s)⟩
theorem runes_pre {s : List UInt8} (h : s.length ≤ 1000000) : runesL.pre [.str s] := ⟨s, rfl, h⟩
theorem runes_fin {s : List UInt8} {z₀ : TV} (h : z₀ = ints (runesC s)) : runesL.post [.str s] z₀ := fun s₁ e => by
  simp only [List.cons.injEq, TV.str.injEq, TV.int.injEq, TV.bool.injEq, TV.agg.injEq, TV.list.injEq, ints_eq, and_true, true_and, and_assoc] at e; subst e
  exact h
theorem runes_all {s : List UInt8} {Q : TV → Prop} : (∀ z₀, runesL.post [.str s] z₀ → Q z₀) ↔ Q (ints (runesC s)) := ⟨fun h => h _ (runes_fin rfl), fun h z₀ hr => by rw [hr _ rfl]; exact h⟩
theorem runes_c (k : Nat) : Contract Tryd.prog (mkEnv globT []) gtab (sn_cluster_runes k) runesL.pre runesL.post := Contract.env (Γ := mkEnv globT [checkL]) (contract_cluster_runes (fun _ => rfl) (fun s hs => by
    simp only [cx_cluster_runes, List.mem_cons, List.not_mem_nil, or_false] at hs
    rcases hs with rfl
    · exact Contract.inEnv rfl (check_c 0) rfl) k (by
  rintro ts hl ⟨s, rfl, hp⟩
  have hfin : ∀ z₀ : TV, z₀ = ints (runesC s) → runesL.post [.str s] z₀ := fun z₀ h => runes_fin h
  generalize runesL.post [.str s] = R at hfin ⊢
  unfold tr_cluster_runes
  simp only [Tree.den, E.den, P1.den, P2.den, P3.den, List.map_cons, List.map_nil, List.cons_append, List.nil_append, List.getD_cons_zero, List.getD_cons_succ, List.getElem?_cons_zero, List.getElem?_cons_succ, asInt_int, asBool_bool, asStr_str, asList_list, cells_agg, TV.cell, pre_zero, pre_succ, post_zero, post_succ, decide_eq_true_eq, decide_eq_false_iff_not, beq_iff_eq, beq_eq_false_iff_ne, Bool.not_eq_true', Bool.not_eq_false', ne_eq, List.length_cons, List.length_nil, forall_eq, Bool.false_eq_true, Bool.true_eq_false, Int.reduceToNat, Option.some.injEq, exists_eq_left', check_all]
  refine ⟨check_pre hp, fun h => hfin _ ?_, fun h => ⟨by omega, hfin _ ?_⟩⟩
  · unfold runesC; rw [if_neg h]; rfl
  · have hv := (check_iff.1 h).1
    rw [runesOf hv]
    unfold runesC
    rw [if_pos h])) rfl
theorem runesC_pos {s : List UInt8} : 0 < (runesC s).length ↔ checkZ s = 0 := by
  unfold runesC
  by_cases h : checkZ s = 0
  · rw [if_pos h]
    have := (check_iff.1 h).2.len
    exact ⟨fun _ => h, fun _ => by omega⟩
  · rw [if_neg h]
    exact ⟨fun h' => by simp at h', fun h' => absurd h' h⟩
def marksL : Law := ⟨fun ts => ∃ (s : List UInt8), ts = [.str s] ∧ (s.length ≤ 1000000), fun ts z₀ => ∀ (s : List UInt8), ts = [.str s] → z₀ = ints (marksS s)⟩
theorem marks_pre {s : List UInt8} (h : s.length ≤ 1000000) : marksL.pre [.str s] := ⟨s, rfl, h⟩
theorem marks_fin {s : List UInt8} {z₀ : TV} (h : z₀ = ints (marksS s)) : marksL.post [.str s] z₀ := fun s₁ e => by
  simp only [List.cons.injEq, TV.str.injEq, TV.int.injEq, TV.bool.injEq, TV.agg.injEq, TV.list.injEq, ints_eq, and_true, true_and, and_assoc] at e; subst e
  exact h
theorem marks_all {s : List UInt8} {Q : TV → Prop} : (∀ z₀, marksL.post [.str s] z₀ → Q z₀) ↔ Q (ints (marksS s)) := ⟨fun h => h _ (marks_fin rfl), fun h z₀ hr => by rw [hr _ rfl]; exact h⟩
theorem marks_c (k : Nat) : Contract Tryd.prog (mkEnv globT []) gtab (sn_cluster_Marks k) marksL.pre marksL.post := Contract.env (Γ := mkEnv globT [runesL]) (contract_cluster_Marks (fun _ => rfl) (fun s hs => by
    simp only [cx_cluster_Marks, List.mem_cons, List.not_mem_nil, or_false] at hs
    rcases hs with rfl
    · exact Contract.inEnv rfl (runes_c 0) rfl) k (by
  rintro ts hl ⟨s, rfl, hp⟩
  have hfin : ∀ z₀ : TV, z₀ = ints (marksS s) → marksL.post [.str s] z₀ := fun z₀ h => marks_fin h
  generalize marksL.post [.str s] = R at hfin ⊢
  unfold tr_cluster_Marks
  have hl := runesC_len s
  have hpos := runesC_pos (s := s)
  simp only [Tree.den, E.den, P1.den, P2.den, P3.den, List.map_cons, List.map_nil, List.cons_append, List.nil_append, List.getD_cons_zero, List.getD_cons_succ, List.getElem?_cons_zero, List.getElem?_cons_succ, asInt_int, asBool_bool, asStr_str, asList_list, cells_agg, TV.cell, pre_zero, pre_succ, post_zero, post_succ, decide_eq_true_eq, decide_eq_false_iff_not, beq_iff_eq, beq_eq_false_iff_ne, Bool.not_eq_true', Bool.not_eq_false', ne_eq, List.length_cons, List.length_nil, forall_eq, Bool.false_eq_true, Bool.true_eq_false, Int.reduceToNat, Option.some.injEq, exists_eq_left', runes_all]
  simp only [Tree.den, E.den, P1.den, P2.den, P3.den, List.map_cons, List.map_nil, List.cons_append, List.nil_append, List.getD_cons_zero, List.getD_cons_succ, List.getElem?_cons_zero, List.getElem?_cons_succ, asInt_int, asBool_bool, asStr_str, asList_list, cells_agg, TV.cell, pre_zero, pre_succ, post_zero, post_succ, decide_eq_true_eq, decide_eq_false_iff_not, beq_iff_eq, beq_eq_false_iff_ne, Bool.not_eq_true', Bool.not_eq_false', ne_eq, List.length_cons, List.length_nil, forall_eq, Bool.false_eq_true, Bool.true_eq_false, Int.reduceToNat, Option.some.injEq, exists_eq_left', ints_asList, map_snoc, map_app, list_map, ints_nil, ints_get, ints_len, bs_get, Int.toNat_natCast, List.length_append, List.length_map, bs_length, ints_drop]
  refine ⟨runes_pre hp, fun h => ⟨by omega, hfin _ ?_⟩, fun h => hfin _ ?_⟩
  · unfold marksS runesC
    rw [if_pos (hpos.1 (by omega)), if_pos (hpos.1 (by omega))]
  · unfold marksS
    rw [if_neg fun e => h (by have := hpos.2 e; omega)])) rfl
def baseL : Law := ⟨fun ts => ∃ (s : List UInt8), ts = [.str s] ∧ (s.length ≤ 1000000), fun ts z₀ => ∀ (s : List UInt8), ts = [.str s] → z₀ = .int (baseS s)⟩
theorem base_pre {s : List UInt8} (h : s.length ≤ 1000000) : baseL.pre [.str s] := ⟨s, rfl, h⟩
theorem base_fin {s : List UInt8} {z₀ : TV} (h : z₀ = .int (baseS s)) : baseL.post [.str s] z₀ := fun s₁ e => by
  simp only [List.cons.injEq, TV.str.injEq, TV.int.injEq, TV.bool.injEq, TV.agg.injEq, TV.list.injEq, ints_eq, and_true, true_and, and_assoc] at e; subst e
  exact h
theorem base_all {s : List UInt8} {Q : TV → Prop} : (∀ z₀, baseL.post [.str s] z₀ → Q z₀) ↔ Q (.int (baseS s)) := ⟨fun h => h _ (base_fin rfl), fun h z₀ hr => by rw [hr _ rfl]; exact h⟩
theorem base_c (k : Nat) : Contract Tryd.prog (mkEnv globT []) gtab (sn_cluster_Base k) baseL.pre baseL.post := Contract.env (Γ := mkEnv globT [runesL]) (contract_cluster_Base (fun _ => rfl) (fun s hs => by
    simp only [cx_cluster_Base, List.mem_cons, List.not_mem_nil, or_false] at hs
    rcases hs with rfl
    · exact Contract.inEnv rfl (runes_c 0) rfl) k (by
  rintro ts hl ⟨s, rfl, hp⟩
  have hfin : ∀ z₀ : TV, z₀ = .int (baseS s) → baseL.post [.str s] z₀ := fun z₀ h => base_fin h
  generalize baseL.post [.str s] = R at hfin ⊢
  unfold tr_cluster_Base
  have hl := runesC_len s
  have hpos := runesC_pos (s := s)
  simp only [Tree.den, E.den, P1.den, P2.den, P3.den, List.map_cons, List.map_nil, List.cons_append, List.nil_append, List.getD_cons_zero, List.getD_cons_succ, List.getElem?_cons_zero, List.getElem?_cons_succ, asInt_int, asBool_bool, asStr_str, asList_list, cells_agg, TV.cell, pre_zero, pre_succ, post_zero, post_succ, decide_eq_true_eq, decide_eq_false_iff_not, beq_iff_eq, beq_eq_false_iff_ne, Bool.not_eq_true', Bool.not_eq_false', ne_eq, List.length_cons, List.length_nil, forall_eq, Bool.false_eq_true, Bool.true_eq_false, Int.reduceToNat, Option.some.injEq, exists_eq_left', runes_all]
  simp only [Tree.den, E.den, P1.den, P2.den, P3.den, List.map_cons, List.map_nil, List.cons_append, List.nil_append, List.getD_cons_zero, List.getD_cons_succ, List.getElem?_cons_zero, List.getElem?_cons_succ, asInt_int, asBool_bool, asStr_str, asList_list, cells_agg, TV.cell, pre_zero, pre_succ, post_zero, post_succ, decide_eq_true_eq, decide_eq_false_iff_not, beq_iff_eq, beq_eq_false_iff_ne, Bool.not_eq_true', Bool.not_eq_false', ne_eq, List.length_cons, List.length_nil, forall_eq, Bool.false_eq_true, Bool.true_eq_false, Int.reduceToNat, Option.some.injEq, exists_eq_left', ints_asList, map_snoc, map_app, list_map, ints_nil, ints_get, ints_len, bs_get, Int.toNat_natCast, List.length_append, List.length_map, bs_length]
  refine ⟨runes_pre hp, fun h => ⟨by omega, hfin _ ?_⟩, fun h => hfin _ ?_⟩
  · unfold baseS runesC
    rw [if_pos (hpos.1 (by omega)), if_pos (hpos.1 (by omega))]
    rfl
  · unfold baseS
    rw [if_neg fun e => h (by have := hpos.2 e; omega)])) rfl
def cwidthL : Law := ⟨fun ts => ∃ (s : List UInt8), ts = [.str s] ∧ (s.length ≤ 1000000), fun ts z₀ => ∀ (s : List UInt8), ts = [.str s] → z₀ = .int (widthS s)⟩
theorem cwidth_pre {s : List UInt8} (h : s.length ≤ 1000000) : cwidthL.pre [.str s] := ⟨s, rfl, h⟩
theorem cwidth_fin {s : List UInt8} {z₀ : TV} (h : z₀ = .int (widthS s)) : cwidthL.post [.str s] z₀ := fun s₁ e => by
  simp only [List.cons.injEq, TV.str.injEq, TV.int.injEq, TV.bool.injEq, TV.agg.injEq, TV.list.injEq, ints_eq, and_true, true_and, and_assoc] at e; subst e
  exact h
theorem cwidth_all {s : List UInt8} {Q : TV → Prop} : (∀ z₀, cwidthL.post [.str s] z₀ → Q z₀) ↔ Q (.int (widthS s)) := ⟨fun h => h _ (cwidth_fin rfl), fun h z₀ hr => by rw [hr _ rfl]; exact h⟩
theorem cwidth_c (k : Nat) : Contract Tryd.prog (mkEnv globT []) gtab (sn_cluster_Width k) cwidthL.pre cwidthL.post := Contract.env (Γ := mkEnv globT [widthL, runesL]) (contract_cluster_Width (fun _ => rfl) (fun s hs => by
    simp only [cx_cluster_Width, List.mem_cons, List.not_mem_nil, or_false] at hs
    rcases hs with rfl | rfl
    · exact Contract.inEnv rfl (width_c 0) rfl
    · exact Contract.inEnv rfl (runes_c 1) rfl) k (by
  rintro ts hl ⟨s, rfl, hp⟩
  have hfin : ∀ z₀ : TV, z₀ = .int (widthS s) → cwidthL.post [.str s] z₀ := fun z₀ h => cwidth_fin h
  generalize cwidthL.post [.str s] = R at hfin ⊢
  unfold tr_cluster_Width
  have hl := runesC_len s
  have hpos := runesC_pos (s := s)
  simp only [Tree.den, E.den, P1.den, P2.den, P3.den, List.map_cons, List.map_nil, List.cons_append, List.nil_append, List.getD_cons_zero, List.getD_cons_succ, List.getElem?_cons_zero, List.getElem?_cons_succ, asInt_int, asBool_bool, asStr_str, asList_list, cells_agg, TV.cell, pre_zero, pre_succ, post_zero, post_succ, decide_eq_true_eq, decide_eq_false_iff_not, beq_iff_eq, beq_eq_false_iff_ne, Bool.not_eq_true', Bool.not_eq_false', ne_eq, List.length_cons, List.length_nil, forall_eq, Bool.false_eq_true, Bool.true_eq_false, Int.reduceToNat, Option.some.injEq, exists_eq_left', runes_all]
  simp only [Tree.den, E.den, P1.den, P2.den, P3.den, List.map_cons, List.map_nil, List.cons_append, List.nil_append, List.getD_cons_zero, List.getD_cons_succ, List.getElem?_cons_zero, List.getElem?_cons_succ, asInt_int, asBool_bool, asStr_str, asList_list, cells_agg, TV.cell, pre_zero, pre_succ, post_zero, post_succ, decide_eq_true_eq, decide_eq_false_iff_not, beq_iff_eq, beq_eq_false_iff_ne, Bool.not_eq_true', Bool.not_eq_false', ne_eq, List.length_cons, List.length_nil, forall_eq, Bool.false_eq_true, Bool.true_eq_false, Int.reduceToNat, Option.some.injEq, exists_eq_left', ints_asList, map_snoc, map_app, list_map, ints_nil, ints_get, ints_len, bs_get, Int.toNat_natCast, List.length_append, List.length_map, bs_length, width_all]
  refine ⟨runes_pre hp, fun h => ⟨by omega, width_pre trivial, hfin _ ?_⟩, fun h => hfin _ ?_⟩
  · unfold widthS runesC
    rw [if_pos (hpos.1 (by omega)), if_pos (hpos.1 (by omega))]
    rfl
  · unfold widthS
    rw [if_neg fun e => h (by have := hpos.2 e; omega)])) rfl
def attachL : Law := ⟨fun ts => ∃ (s : List UInt8) (m : Int), ts = [.str s, .int m] ∧ (s.length ≤ 1000000 ∧ -2147483648 ≤ m ∧ m ≤ 2147483647), fun ts z₀ => ∀ (s : List UInt8) (m : Int), ts = [.str s, .int m] → z₀ = attachT s m⟩
theorem attach_pre {s : List UInt8} {m : Int} (h : s.length ≤ 1000000 ∧ -2147483648 ≤ m ∧ m ≤ 2147483647) : attachL.pre [.str s, .int m] := ⟨s, m, rfl, h⟩
theorem attach_fin {s : List UInt8} {m : Int} {z₀ : TV} (h : z₀ = attachT s m) : attachL.post [.str s, .int m] z₀ := fun s₁ m₁ e => by
  simp only [List.cons.injEq, TV.str.injEq, TV.int.injEq, TV.bool.injEq, TV.agg.injEq, TV.list.injEq, ints_eq, and_true, true_and, and_assoc] at e; obtain ⟨rfl, rfl⟩ := e
  exact h
theorem attach_all {s : List UInt8} {m : Int} {Q : TV → Prop} : (∀ z₀, attachL.post [.str s, .int m] z₀ → Q z₀) ↔ Q (attachT s m) := ⟨fun h => h _ (attach_fin rfl), fun h z₀ hr => by rw [hr _ _ rfl]; exact h⟩
theorem marksS_len (s : List UInt8) : (marksS s).length ≤ s.length := by
  unfold marksS
  split
  · rw [List.length_drop]; have := runes_len s; omega
  · simp
theorem attach_c (k : Nat) : Contract Tryd.prog (mkEnv globT []) gtab (sn_cluster_Attach k) attachL.pre attachL.post := Contract.env (Γ := mkEnv globT [encL, markL, checkL, marksL]) (contract_cluster_Attach (fun _ => rfl) (fun s hs => by
    simp only [cx_cluster_Attach, List.mem_cons, List.not_mem_nil, or_false] at hs
    rcases hs with rfl | rfl | rfl | rfl
    · exact Contract.inEnv rfl (enc_c 0) rfl
    · exact Contract.inEnv rfl (mark_c 1) rfl
    · exact Contract.inEnv rfl (check_c 2) rfl
    · exact Contract.inEnv rfl (marks_c 3) rfl) k (by
  rintro ts hl ⟨s, m, rfl, hp⟩
  have hfin : ∀ z₀ : TV, z₀ = attachT s m → attachL.post [.str s, .int m] z₀ := fun z₀ h => attach_fin h
  generalize attachL.post [.str s, .int m] = R at hfin ⊢
  unfold tr_cluster_Attach
  obtain ⟨hs, hm⟩ := hp
  have hml := marksS_len s
  have hel := (encS_len [m]).2
  have l1 : TV.list [.int m] = ints [m] := rfl
  simp only [Tree.den, E.den, P1.den, P2.den, P3.den, List.map_cons, List.map_nil, List.cons_append, List.nil_append, List.getD_cons_zero, List.getD_cons_succ, List.getElem?_cons_zero, List.getElem?_cons_succ, asInt_int, asBool_bool, asStr_str, asList_list, cells_agg, TV.cell, pre_zero, pre_succ, post_zero, post_succ, decide_eq_true_eq, decide_eq_false_iff_not, beq_iff_eq, beq_eq_false_iff_ne, Bool.not_eq_true', Bool.not_eq_false', ne_eq, List.length_cons, List.length_nil, forall_eq, Bool.false_eq_true, Bool.true_eq_false, Int.reduceToNat, Option.some.injEq, exists_eq_left', check_all, mark_all, marks_all, l1, enc_all]
  simp only [Tree.den, E.den, P1.den, P2.den, P3.den, List.map_cons, List.map_nil, List.cons_append, List.nil_append, List.getD_cons_zero, List.getD_cons_succ, List.getElem?_cons_zero, List.getElem?_cons_succ, asInt_int, asBool_bool, asStr_str, asList_list, cells_agg, TV.cell, pre_zero, pre_succ, post_zero, post_succ, decide_eq_true_eq, decide_eq_false_iff_not, beq_iff_eq, beq_eq_false_iff_ne, Bool.not_eq_true', Bool.not_eq_false', ne_eq, List.length_cons, List.length_nil, forall_eq, Bool.false_eq_true, Bool.true_eq_false, Int.reduceToNat, Option.some.injEq, exists_eq_left', ints_asList, map_snoc, map_app, list_map, ints_nil, ints_get, ints_len, bs_get, Int.toNat_natCast, List.length_append, List.length_map, bs_length, encS_def]
  unfold attachT at hfin
  refine ⟨check_pre hs, fun h => hfin _ ?_, fun h => ⟨mark_pre trivial, fun h1 => hfin _ ?_, fun h1 => ⟨marks_pre hs, fun h2 => hfin _ ?_, fun h2 => ⟨enc_pre ⟨run_one hm, by simp⟩, ?_, hfin _ ?_⟩⟩⟩⟩
  · rw [if_neg h]
  · rw [if_pos h, if_neg (by rw [h1]; simp)]
  · rw [if_pos h, if_pos h1, if_pos (by omega)]
  · simp only [List.length_singleton] at hel; omega
  · rw [if_pos h, if_pos h1, if_neg (by omega)])) rfl

/-! ### Split -/
def splitL : Law := ⟨fun ts => ∃ (l : List Int), ts = [ints l] ∧ (Run l ∧ l.length ≤ 1000000), fun ts z₀ => ∀ (l : List Int), ts = [ints l] → z₀ = strs ((splitZ l).map encS)⟩
theorem split_pre {l : List Int} (h : Run l ∧ l.length ≤ 1000000) : splitL.pre [ints l] := ⟨l, rfl, h⟩
theorem split_fin {l : List Int} {z₀ : TV} (h : z₀ = strs ((splitZ l).map encS)) : splitL.post [ints l] z₀ := fun l₁ e => by
  simp only [List.cons.injEq, TV.str.injEq, TV.int.injEq, TV.bool.injEq, TV.agg.injEq, TV.list.injEq, ints_eq, and_true, true_and, and_assoc] at e; subst e
  exact h
theorem split_all {l : List Int} {Q : TV → Prop} : (∀ z₀, splitL.post [ints l] z₀ → Q z₀) ↔ Q (strs ((splitZ l).map encS)) := ⟨fun h => h _ (split_fin rfl), fun h z₀ hr => by rw [hr _ rfl]; exact h⟩
def SI (l : List Int) (xs : List TV) : Prop := ∃ k m : Nat, xs = [.int k, .int m, strs ((splitZ (l.take k)).map encS)] ∧ k ≤ l.length ∧ ∀ p c, splitZ (l.take k) = p ++ [c] → m + 1 = c.length
def Sm (l : List Int) (xs : List TV) : Nat := l.length - (xs.getD 0 (.int 0)).asInt.toNat
theorem app_last {α : Type} {p q : List α} {a b : α} (h : p ++ [a] = q ++ [b]) : p = q ∧ a = b := by
  have := List.append_inj' h rfl
  exact ⟨this.1, by simpa using this.2⟩
theorem split_c (k : Nat) : Contract Tryd.prog (mkEnv globT []) gtab (sn_cluster_Split k) splitL.pre splitL.post := Contract.env (Γ := mkEnv globT [encL, widthL]) (contract_cluster_Split (fun _ => rfl) (fun s hs => by
    simp only [cx_cluster_Split, List.mem_cons, List.not_mem_nil, or_false] at hs
    rcases hs with rfl | rfl
    · exact Contract.inEnv rfl (enc_c 0) rfl
    · exact Contract.inEnv rfl (width_c 1) rfl) k (by
  rintro ts hl ⟨l, rfl, hp⟩
  have hfin : ∀ z₀ : TV, z₀ = strs ((splitZ l).map encS) → splitL.post [ints l] z₀ := fun z₀ h => split_fin h
  generalize splitL.post [ints l] = R at hfin ⊢
  unfold tr_cluster_Split
  obtain ⟨hr, hsz⟩ := hp
  simp only [Tree.den, E.den, P1.den, P2.den, P3.den, List.map_cons, List.map_nil, List.cons_append, List.nil_append, List.getD_cons_zero, List.getD_cons_succ, List.getElem?_cons_zero, List.getElem?_cons_succ, asInt_int, asBool_bool, asStr_str, asList_list, cells_agg, TV.cell, pre_zero, pre_succ, post_zero, post_succ, decide_eq_true_eq, decide_eq_false_iff_not, beq_iff_eq, beq_eq_false_iff_ne, Bool.not_eq_true', Bool.not_eq_false', ne_eq, List.length_cons, List.length_nil, forall_eq, Bool.false_eq_true, Bool.true_eq_false, Int.reduceToNat, Option.some.injEq, exists_eq_left']
  simp only [Tree.den, E.den, P1.den, P2.den, P3.den, List.map_cons, List.map_nil, List.cons_append, List.nil_append, List.getD_cons_zero, List.getD_cons_succ, List.getElem?_cons_zero, List.getElem?_cons_succ, asInt_int, asBool_bool, asStr_str, asList_list, cells_agg, TV.cell, pre_zero, pre_succ, post_zero, post_succ, decide_eq_true_eq, decide_eq_false_iff_not, beq_iff_eq, beq_eq_false_iff_ne, Bool.not_eq_true', Bool.not_eq_false', ne_eq, List.length_cons, List.length_nil, forall_eq, Bool.false_eq_true, Bool.true_eq_false, Int.reduceToNat, Option.some.injEq, exists_eq_left', ints_asList, map_snoc, map_app, list_map, ints_nil, ints_get, ints_len, bs_get, Int.toNat_natCast, List.length_append, List.length_map, bs_length]
  refine ⟨SI l, Sm l, ⟨0, 0, rfl, by omega, fun p c h => by simp [splitZ, splitF] at h⟩, ?_⟩
  rintro xs _ ⟨k, m, rfl, hk, hm⟩
  have hD : ∀ a b, Sm l [.int (k : Int), a, b] = l.length - k := fun a b => rfl
  have e64 : IntKind.wrap .i64 ((k : Int) + 1) = ((k + 1 : Nat) : Int) := by rw [wrap_i64 (n := (k : Int) + 1) (by omega) (by omega)]; omega
  by_cases hkl : k < l.length
  · have hn := hr _ (getD_mem hkl)
    have hs : splitZ (l.take (k + 1)) = stepS (splitZ (l.take k)) (l.getD k 0) := by rw [take_snoc hkl, splitZ_snoc]
    have hinv := split_inv (l.take k)
    have hlen := split_len (l.take k)
    rw [List.length_take] at hlen
    generalize splitZ (l.take k) = cs at *
    generalize hrr : l.getD k 0 = r at *
    have l1 : TV.list [.int r] = ints [r] := rfl
    have l2 : TV.list [.int 32] = ints [32] := rfl
    have er1 := (encS_len [r]).2
    have er2 := (encS_len [32]).2
    simp only [List.length_singleton] at er1 er2
    have go : ∀ (m' : Nat) (X : List (List UInt8)), X = (stepS cs r).map encS → (∀ p c, stepS cs r = p ++ [c] → m' + 1 = c.length) → SI l [.int ((k + 1 : Nat) : Int), .int (m' : Int), strs X] ∧ Sm l [.int ((k + 1 : Nat) : Int), .int (m' : Int), strs X] < l.length - k := fun m' X hX hm' => by
      refine ⟨⟨k + 1, m', by rw [hX, hs], by omega, fun p c h => hm' p c (by rw [← hs, h])⟩, ?_⟩
      simp only [Sm, List.getD_cons_zero, asInt_int]; omega
    rcases width_cases r with ⟨hw, hmk⟩ | ⟨hw, hmk⟩ | ⟨hw, hw2, hmk⟩
    · have hst := step_ctrl (o := cs) (r := r) (by omega)
      rw [hst] at go
      simp only [Tree.den, E.den, P1.den, P2.den, P3.den, List.map_cons, List.map_nil, List.cons_append, List.nil_append, List.getD_cons_zero, List.getD_cons_succ, List.getElem?_cons_zero, List.getElem?_cons_succ, asInt_int, asBool_bool, asStr_str, asList_list, cells_agg, TV.cell, pre_zero, pre_succ, post_zero, post_succ, decide_eq_true_eq, decide_eq_false_iff_not, beq_iff_eq, beq_eq_false_iff_ne, Bool.not_eq_true', Bool.not_eq_false', ne_eq, List.length_cons, List.length_nil, forall_eq, Bool.false_eq_true, Bool.true_eq_false, Int.reduceToNat, Option.some.injEq, exists_eq_left', ints_asList, map_snoc, map_app, list_map, ints_nil, ints_get, ints_len, bs_get, Int.toNat_natCast, List.length_append, List.length_map, bs_length, hD, e64, hrr, width_all, hw]
      exact ⟨fun _ => ⟨by omega, by omega, width_pre trivial, fun h => (by simp at h), fun _ => ⟨fun h => (by simp at h), fun _ => ⟨fun h => (by simp at h), fun _ => go m _ rfl hm⟩⟩⟩, fun h => by omega⟩
    · rcases last_cases cs with hcs | ⟨p, c, hcs⟩
      · subst hcs
        have hst := step_nil hmk
        rw [hst] at go
        have e0 : IntKind.wrap .i64 (((0 + 1 : Nat) : Int) - 1) = 0 := by decide
        simp only [Tree.den, E.den, P1.den, P2.den, P3.den, List.map_cons, List.map_nil, List.cons_append, List.nil_append, List.getD_cons_zero, List.getD_cons_succ, List.getElem?_cons_zero, List.getElem?_cons_succ, asInt_int, asBool_bool, asStr_str, asList_list, cells_agg, TV.cell, pre_zero, pre_succ, post_zero, post_succ, decide_eq_true_eq, decide_eq_false_iff_not, beq_iff_eq, beq_eq_false_iff_ne, Bool.not_eq_true', Bool.not_eq_false', ne_eq, List.length_cons, List.length_nil, forall_eq, Bool.false_eq_true, Bool.true_eq_false, Int.reduceToNat, Option.some.injEq, exists_eq_left', ints_asList, map_snoc, map_app, list_map, ints_nil, ints_get, ints_len, bs_get, Int.toNat_natCast, List.length_append, List.length_map, bs_length, hD, e64, hrr, width_all, hw, l1, l2, enc_all, encS_def, strs_asList, List.map_nil, e0, List.set_cons_zero]
        refine ⟨fun _ => ⟨by omega, by omega, width_pre trivial, fun _ => ⟨fun _ => ⟨enc_pre ⟨run_one (by omega), by simp⟩, by omega, by omega, by omega, enc_pre ⟨run_one hn, by simp⟩, by omega, by omega, by omega, ?_⟩, fun h => (by simp at h)⟩, fun h => (by simp at h)⟩, fun h => by omega⟩
        refine go 1 [encS [32] ++ encS [r]] ?_ ?_
        · rw [← encS_append]; rfl
        · intro p c h
          obtain ⟨_, rfl⟩ := app_last (p := []) h
          rfl
      · subst hcs
        have hc := (hinv c (by simp)).len
        have hmc := hm p c rfl
        have ec := (encS_len c).2
        rw [List.length_append, List.length_singleton] at hlen
        have hPl : (p.map encS).length = p.length := List.length_map _
        rw [List.map_append, List.map_cons, List.map_nil]
        generalize hP : p.map encS = P at *
        generalize hsc : encS c = s at *
        have e1 : IntKind.wrap .i64 (((P.length + (0 + 1) : Nat) : Int) - 1) = (P.length : Int) := by rw [wrap_i64 (by omega) (by omega)]; omega
        have em : IntKind.wrap .i64 ((m : Int) + 1) = ((m + 1 : Nat) : Int) := by rw [wrap_i64 (by omega) (by omega)]; omega
        simp only [Tree.den, E.den, P1.den, P2.den, P3.den, List.map_cons, List.map_nil, List.cons_append, List.nil_append, List.getD_cons_zero, List.getD_cons_succ, List.getElem?_cons_zero, List.getElem?_cons_succ, asInt_int, asBool_bool, asStr_str, asList_list, cells_agg, TV.cell, pre_zero, pre_succ, post_zero, post_succ, decide_eq_true_eq, decide_eq_false_iff_not, beq_iff_eq, beq_eq_false_iff_ne, Bool.not_eq_true', Bool.not_eq_false', ne_eq, List.length_cons, List.length_nil, forall_eq, Bool.false_eq_true, Bool.true_eq_false, Int.reduceToNat, Option.some.injEq, exists_eq_left', ints_asList, map_snoc, map_app, list_map, ints_nil, ints_get, ints_len, bs_get, Int.toNat_natCast, List.length_append, List.length_map, bs_length, hD, e64, hrr, width_all, hw, l1, l2, enc_all, encS_def, strs_asList, e1, em, strs_get, strs_set]
        refine ⟨fun _ => ⟨by omega, by omega, width_pre trivial, fun _ => ⟨fun h => by omega, fun _ => ⟨fun h3 => ⟨by omega, by omega, enc_pre ⟨run_one hn, by simp⟩, by omega, by omega, by omega, ?_⟩, fun h3 => ?_⟩⟩, fun h => (by simp at h)⟩, fun h => by omega⟩
        · have hst := step_mark (o := p) (c := c) hmk (by omega)
          rw [hst] at go
          refine go (m + 1) (P ++ [s ++ encS [r]]) ?_ ?_
          · rw [List.map_append, hP, List.map_cons, List.map_nil, encS_append, hsc]
          · intro q d h
            obtain ⟨_, rfl⟩ := app_last h
            rw [List.length_append, List.length_singleton]
            omega
        · have hst := step_full (o := p) (c := c) hmk (by omega)
          rw [hst] at go
          refine go m (P ++ [s]) ?_ hm
          rw [List.map_append, hP, List.map_cons, List.map_nil, hsc]
    · have hst := step_base (o := cs) (r := r) (by omega)
      rw [hst] at go
      simp only [Tree.den, E.den, P1.den, P2.den, P3.den, List.map_cons, List.map_nil, List.cons_append, List.nil_append, List.getD_cons_zero, List.getD_cons_succ, List.getElem?_cons_zero, List.getElem?_cons_succ, asInt_int, asBool_bool, asStr_str, asList_list, cells_agg, TV.cell, pre_zero, pre_succ, post_zero, post_succ, decide_eq_true_eq, decide_eq_false_iff_not, beq_iff_eq, beq_eq_false_iff_ne, Bool.not_eq_true', Bool.not_eq_false', ne_eq, List.length_cons, List.length_nil, forall_eq, Bool.false_eq_true, Bool.true_eq_false, Int.reduceToNat, Option.some.injEq, exists_eq_left', ints_asList, map_snoc, map_app, list_map, ints_nil, ints_get, ints_len, bs_get, Int.toNat_natCast, List.length_append, List.length_map, bs_length, hD, e64, hrr, width_all, l1, l2, enc_all, encS_def, strs_asList, strs_snoc]
      have hgo : SI l [.int ((k + 1 : Nat) : Int), .int 0, strs (cs.map encS ++ [encS [r]])] ∧ Sm l [.int ((k + 1 : Nat) : Int), .int 0, strs (cs.map encS ++ [encS [r]])] < l.length - k := by
        refine go 0 _ ?_ ?_
        · rw [List.map_append, List.map_cons, List.map_nil]
        · intro q d h
          obtain ⟨_, rfl⟩ := app_last h
          rfl
      refine ⟨fun _ => ⟨by omega, by omega, width_pre trivial, fun h => by omega, fun _ => ⟨fun h => ⟨enc_pre ⟨run_one hn, by simp⟩, by omega, hgo⟩, fun _ => ⟨fun h => ⟨enc_pre ⟨run_one hn, by simp⟩, by omega, hgo⟩, fun _ => by omega⟩⟩⟩, fun h => by omega⟩
  · have hkk : k = l.length := by omega
    subst hkk
    rw [List.take_of_length_le (Nat.le_refl _)] at *
    simp only [Tree.den, E.den, P1.den, P2.den, P3.den, List.map_cons, List.map_nil, List.cons_append, List.nil_append, List.getD_cons_zero, List.getD_cons_succ, List.getElem?_cons_zero, List.getElem?_cons_succ, asInt_int, asBool_bool, asStr_str, asList_list, cells_agg, TV.cell, pre_zero, pre_succ, post_zero, post_succ, decide_eq_true_eq, decide_eq_false_iff_not, beq_iff_eq, beq_eq_false_iff_ne, Bool.not_eq_true', Bool.not_eq_false', ne_eq, List.length_cons, List.length_nil, forall_eq, Bool.false_eq_true, Bool.true_eq_false, Int.reduceToNat, Option.some.injEq, exists_eq_left', ints_asList, map_snoc, map_app, list_map, ints_nil, ints_get, ints_len, bs_get, Int.toNat_natCast, List.length_append, List.length_map, bs_length, hD]
    exact ⟨fun h => by omega, fun _ => hfin _ rfl⟩)) rfl
end Go.Proofs.YtnbbepgmnbmfdaaDoor
