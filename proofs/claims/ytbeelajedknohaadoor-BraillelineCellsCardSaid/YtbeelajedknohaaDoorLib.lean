/- The contracts of package brailleline: size, Cell, Glyph; of its reference: proper, Cell, Glyph, Same. -/
import Derived.Test.YtbeelajedknohaaDoorLia
import Derived.Test.YtbeelajedknohaaDoorCs
namespace Go.Proofs.YtbeelajedknohaaDoor
set_option linter.unusedSimpArgs false
set_option linter.unusedVariables false
set_option linter.unusedSectionVars false

def SzI (s : List Int) (xs : List TV) : Prop := ∃ k : Nat, xs = [.int k] ∧ k + 1 ≤ s.length ∧ ∀ j : Nat, k ≤ j → j + 1 < s.length → s.getD j 0 ≤ s.getD (j + 1) 0
def Szm (xs : List TV) : Nat := (xs.getD 0 (.int 0)).asInt.toNat
def sizeL : Law := ⟨fun ts => ∃ (c : List Int) (s : List Int), ts = [.agg [ints c, ints s]] ∧ (c.length ≤ 1000000000 ∧ s.length ≤ 1000000000), fun ts z₀ => ∀ (c : List Int) (s : List Int), ts = [.agg [ints c, ints s]] → z₀ = sizeT c s⟩
theorem size_pre {c : List Int} {s : List Int} (h : c.length ≤ 1000000000 ∧ s.length ≤ 1000000000) : sizeL.pre [.agg [ints c, ints s]] := ⟨c, s, rfl, h⟩
theorem size_fin {c : List Int} {s : List Int} {z₀ : TV} (h : z₀ = sizeT c s) : sizeL.post [.agg [ints c, ints s]] z₀ := fun c₁ s₁ e => by
  simp only [List.cons.injEq, TV.str.injEq, TV.int.injEq, TV.bool.injEq, TV.agg.injEq, TV.list.injEq, ints_eq, and_true, true_and, and_assoc] at e; obtain ⟨rfl, rfl⟩ := e
  exact h
theorem size_all {c : List Int} {s : List Int} {Q : TV → Prop} : (∀ z₀, sizeL.post [.agg [ints c, ints s]] z₀ → Q z₀) ↔ Q (sizeT c s) := ⟨fun h => h _ (size_fin rfl), fun h z₀ hr => by rw [hr _ _ rfl]; exact h⟩
theorem size_c (k : Nat) : Contract Tryd.prog (mkEnv globT []) gtab (sn_brailleline_size k) sizeL.pre sizeL.post := Contract.env (Γ := mkEnv globT [lessL]) (contract_brailleline_size (fun _ => rfl) (fun s hs => by
    simp only [cx_brailleline_size, List.mem_cons, List.not_mem_nil, or_false] at hs
    rcases hs with rfl
    · exact Contract.inEnv rfl (less_c 0) rfl) k (by
  rintro ts hl ⟨c, s, rfl, hp⟩
  have hfin : ∀ z₀ : TV, z₀ = sizeT c s → sizeL.post [.agg [ints c, ints s]] z₀ := fun z₀ h => size_fin h
  generalize sizeL.post [.agg [ints c, ints s]] = R at hfin ⊢
  unfold tr_brailleline_size
  obtain ⟨hc, hs⟩ := hp
  unfold sizeT at hfin
  have e1 : IntKind.wrap .i64 ((c.length : Int) + 1) = (c.length : Int) + 1 := wrap_i64 (by omega) (by omega)
  have e2 : IntKind.wrap .i64 ((s.length : Int) - 1) = (s.length : Int) - 1 := wrap_i64 (by omega) (by omega)
  simp only [Tree.den, E.den, P1.den, P2.den, P3.den, List.map_cons, List.map_nil, List.cons_append, List.nil_append, List.getD_cons_zero, List.getD_cons_succ, List.getElem?_cons_zero, List.getElem?_cons_succ, asInt_int, asBool_bool, asStr_str, asList_list, cells_agg, TV.cell, pre_zero, pre_succ, post_zero, post_succ, decide_eq_true_eq, decide_eq_false_iff_not, beq_iff_eq, beq_eq_false_iff_ne, Bool.not_eq_true', Bool.not_eq_false', ne_eq, List.length_cons, List.length_nil, forall_eq, Bool.false_eq_true, Bool.true_eq_false, Int.reduceToNat, Option.some.injEq, exists_eq_left']
  simp only [Tree.den, E.den, P1.den, P2.den, P3.den, List.map_cons, List.map_nil, List.cons_append, List.nil_append, List.getD_cons_zero, List.getD_cons_succ, List.getElem?_cons_zero, List.getElem?_cons_succ, asInt_int, asBool_bool, asStr_str, asList_list, cells_agg, TV.cell, pre_zero, pre_succ, post_zero, post_succ, decide_eq_true_eq, decide_eq_false_iff_not, beq_iff_eq, beq_eq_false_iff_ne, Bool.not_eq_true', Bool.not_eq_false', ne_eq, List.length_cons, List.length_nil, forall_eq, Bool.false_eq_true, Bool.true_eq_false, Int.reduceToNat, Option.some.injEq, exists_eq_left', ints_asList, map_snoc, map_app, list_map, ints_nil, ints_get, ints_len, bs_get, Int.toNat_natCast, List.length_append, List.length_map, bs_length, less_all, e1, e2]
  refine ⟨fun h => hfin _ ?_, fun h => ⟨by omega, fun h1 => hfin _ ?_, fun h1 => ⟨SzI s, Szm, ⟨s.length - 1, by rw [show ((s.length - 1 : Nat) : Int) = (s.length : Int) - 1 by omega], by omega, fun j h2 h3 => by omega⟩, ?_⟩⟩⟩
  · rw [if_neg fun hp => h (by have := hp.1; omega)]
  · rw [if_neg fun hp => absurd hp.2.1 (by omega)]
  rintro xs _ ⟨k, rfl, hk, hu⟩
  have hD : Szm [.int (k : Int)] = k := rfl
  by_cases hk0 : 0 < k
  · have ek : IntKind.wrap .i64 ((k : Int) - 1) = ((k - 1 : Nat) : Int) := by rw [wrap_i64 (by omega) (by omega)]; omega
    simp only [Tree.den, E.den, P1.den, P2.den, P3.den, List.map_cons, List.map_nil, List.cons_append, List.nil_append, List.getD_cons_zero, List.getD_cons_succ, List.getElem?_cons_zero, List.getElem?_cons_succ, asInt_int, asBool_bool, asStr_str, asList_list, cells_agg, TV.cell, pre_zero, pre_succ, post_zero, post_succ, decide_eq_true_eq, decide_eq_false_iff_not, beq_iff_eq, beq_eq_false_iff_ne, Bool.not_eq_true', Bool.not_eq_false', ne_eq, List.length_cons, List.length_nil, forall_eq, Bool.false_eq_true, Bool.true_eq_false, Int.reduceToNat, Option.some.injEq, exists_eq_left', ints_asList, map_snoc, map_app, list_map, ints_nil, ints_get, ints_len, bs_get, Int.toNat_natCast, List.length_append, List.length_map, bs_length, hD, ek, less_all]
    refine ⟨fun _ => ⟨by omega, by omega, by omega, by omega, less_pre trivial, fun hlt => hfin _ ?_, fun hlt => ⟨⟨k - 1, rfl, by omega, fun j h2 h3 => ?_⟩, ?_⟩⟩, fun h => by omega⟩
    · rw [if_neg fun hp => absurd (hp.2.2 (k - 1) (by omega)) (by rw [show k - 1 + 1 = k by omega]; omega)]
    · rcases Nat.lt_or_ge (k - 1) j with h4 | h4
      · exact hu j (by omega) h3
      · have : j = k - 1 := by omega
        subst this
        rw [show k - 1 + 1 = k by omega]
        omega
    · simp only [Szm, List.getD_cons_zero, asInt_int]; omega
  · simp only [Tree.den, E.den, P1.den, P2.den, P3.den, List.map_cons, List.map_nil, List.cons_append, List.nil_append, List.getD_cons_zero, List.getD_cons_succ, List.getElem?_cons_zero, List.getElem?_cons_succ, asInt_int, asBool_bool, asStr_str, asList_list, cells_agg, TV.cell, pre_zero, pre_succ, post_zero, post_succ, decide_eq_true_eq, decide_eq_false_iff_not, beq_iff_eq, beq_eq_false_iff_ne, Bool.not_eq_true', Bool.not_eq_false', ne_eq, List.length_cons, List.length_nil, forall_eq, Bool.false_eq_true, Bool.true_eq_false, Int.reduceToNat, Option.some.injEq, exists_eq_left', ints_asList, map_snoc, map_app, list_map, ints_nil, ints_get, ints_len, bs_get, Int.toNat_natCast, List.length_append, List.length_map, bs_length, hD, less_all]
    refine ⟨fun h => by omega, fun _ => ⟨by omega, by omega, hfin _ ?_⟩⟩
    rw [if_pos ⟨by omega, by omega, fun j h3 => hu j (by omega) h3⟩])) rfl

/-! ### Cell, Glyph -/
theorem take_get0 {s : List Int} {n i : Nat} (h : i < n) : (s.take n).getD i 0 = s.getD i 0 := by
  rw [List.getD_eq_getElem?_getD, List.getElem?_take_of_lt h, List.getD_eq_getElem?_getD]
theorem tmap_get {s : List Int} {n i : Nat} (h : i < n) : ((s.map TV.int).take (n - 0)).getD i (.int 0) = .int (s.getD i 0) := by rw [Nat.sub_zero, ← List.map_take, ints_get, take_get0 h]
def BcI (s : List Int) (g : Int) (n : Nat) (xs : List TV) : Prop := ∃ k : Nat, xs = [.int (bestN s g k), .int k] ∧ k ≤ n
def Bcm (n : Nat) (xs : List TV) : Nat := n - (xs.getD 1 (.int 0)).asInt.toNat
theorem bestN_succ (s : List Int) (g : Int) (k : Nat) : bestN s g (k + 1) = if s.getD k 0 ≤ g ∧ Head1 s k then k else bestN s g k := rfl
theorem sizeT_pos {c s : List Int} (h : PL c s) : sizeT c s = .agg [.int (s.getD c.length 0), .bool true] := by unfold sizeT; rw [if_pos h]
theorem sizeT_neg {c s : List Int} (h : ¬ PL c s) : sizeT c s = .agg [.int 0, .bool false] := by unfold sizeT; rw [if_neg h]
def bcellL : Law := ⟨fun ts => ∃ (c : List Int) (s : List Int) (g : Int), ts = [.agg [ints c, ints s], .int g] ∧ (c.length ≤ 1000000000 ∧ s.length ≤ 1000000000), fun ts z₀ => ∀ (c : List Int) (s : List Int) (g : Int), ts = [.agg [ints c, ints s], .int g] → z₀ = .int (cellAt c s g)⟩
theorem bcell_pre {c : List Int} {s : List Int} {g : Int} (h : c.length ≤ 1000000000 ∧ s.length ≤ 1000000000) : bcellL.pre [.agg [ints c, ints s], .int g] := ⟨c, s, g, rfl, h⟩
theorem bcell_fin {c : List Int} {s : List Int} {g : Int} {z₀ : TV} (h : z₀ = .int (cellAt c s g)) : bcellL.post [.agg [ints c, ints s], .int g] z₀ := fun c₁ s₁ g₁ e => by
  simp only [List.cons.injEq, TV.str.injEq, TV.int.injEq, TV.bool.injEq, TV.agg.injEq, TV.list.injEq, ints_eq, and_true, true_and, and_assoc] at e; obtain ⟨rfl, rfl, rfl⟩ := e
  exact h
theorem bcell_all {c : List Int} {s : List Int} {g : Int} {Q : TV → Prop} : (∀ z₀, bcellL.post [.agg [ints c, ints s], .int g] z₀ → Q z₀) ↔ Q (.int (cellAt c s g)) := ⟨fun h => h _ (bcell_fin rfl), fun h z₀ hr => by rw [hr _ _ _ rfl]; exact h⟩
theorem bcell_c (k : Nat) : Contract Tryd.prog (mkEnv globT []) gtab (sn_brailleline_Cell k) bcellL.pre bcellL.post := Contract.env (Γ := mkEnv globT [sizeL]) (contract_brailleline_Cell (fun _ => rfl) (fun s hs => by
    simp only [cx_brailleline_Cell, List.mem_cons, List.not_mem_nil, or_false] at hs
    rcases hs with rfl
    · exact Contract.inEnv rfl (size_c 0) rfl) k (by
  rintro ts hl ⟨c, s, g, rfl, hp⟩
  have hfin : ∀ z₀ : TV, z₀ = .int (cellAt c s g) → bcellL.post [.agg [ints c, ints s], .int g] z₀ := fun z₀ h => bcell_fin h
  generalize bcellL.post [.agg [ints c, ints s], .int g] = R at hfin ⊢
  unfold tr_brailleline_Cell
  obtain ⟨hc, hs⟩ := hp
  unfold cellAt at hfin
  by_cases hP : PL c s
  · have hsz := sizeT_pos hP
    have hlen := hP.1
    have hn0 : 0 ≤ s.getD c.length 0 := hP.pos (by omega)
    simp only [Tree.den, E.den, P1.den, P2.den, P3.den, List.map_cons, List.map_nil, List.cons_append, List.nil_append, List.getD_cons_zero, List.getD_cons_succ, List.getElem?_cons_zero, List.getElem?_cons_succ, asInt_int, asBool_bool, asStr_str, asList_list, cells_agg, TV.cell, pre_zero, pre_succ, post_zero, post_succ, decide_eq_true_eq, decide_eq_false_iff_not, beq_iff_eq, beq_eq_false_iff_ne, Bool.not_eq_true', Bool.not_eq_false', ne_eq, List.length_cons, List.length_nil, forall_eq, Bool.false_eq_true, Bool.true_eq_false, Int.reduceToNat, Option.some.injEq, exists_eq_left', size_all, hsz]
    simp only [Tree.den, E.den, P1.den, P2.den, P3.den, List.map_cons, List.map_nil, List.cons_append, List.nil_append, List.getD_cons_zero, List.getD_cons_succ, List.getElem?_cons_zero, List.getElem?_cons_succ, asInt_int, asBool_bool, asStr_str, asList_list, cells_agg, TV.cell, pre_zero, pre_succ, post_zero, post_succ, decide_eq_true_eq, decide_eq_false_iff_not, beq_iff_eq, beq_eq_false_iff_ne, Bool.not_eq_true', Bool.not_eq_false', ne_eq, List.length_cons, List.length_nil, forall_eq, Bool.false_eq_true, Bool.true_eq_false, Int.reduceToNat, Option.some.injEq, exists_eq_left', ints_asList, map_snoc, map_app, list_map, ints_nil, ints_get, ints_len, bs_get, Int.toNat_natCast, List.length_append, List.length_map, bs_length, ints_sub, List.drop_zero, List.length_take]
    refine ⟨size_pre ⟨hc, hs⟩, fun h => absurd h (by simp), fun _ => ⟨fun h1 => hfin _ (by rw [if_pos (.inr (.inl h1))]), fun h1 => ⟨fun h2 => hfin _ (by rw [if_pos (.inr (.inr h2))]), fun h2 => ⟨fun h3 => hfin _ ?_, fun h3 => ?_⟩⟩⟩⟩
    · rw [if_neg (by rintro (h | h | h) <;> first | exact h hP | omega), if_pos h3, wrap_i64 (n := (c.length : Int) + g) (by omega) (by omega), wrap_i64 (by omega) (by omega)]
    · rw [if_neg (by rintro (h | h | h) <;> first | exact h hP | omega), if_neg h3] at hfin
      refine ⟨by omega, by omega, BcI s g c.length, Bcm c.length, ⟨0, rfl, by omega⟩, ?_⟩
      rintro xs _ ⟨k, rfl, hk⟩
      have hD : ∀ a, Bcm c.length [a, .int (k : Int)] = c.length - k := fun _ => rfl
      have hb := bestN_succ s g k
      have hm : min c.length s.length = c.length := by omega
      by_cases hkc : k < c.length
      · have ek : IntKind.wrap .i64 ((k : Int) + 1) = ((k + 1 : Nat) : Int) := by rw [wrap_i64 (n := (k : Int) + 1) (by omega) (by omega)]; omega
        have ek1 : 0 < k → IntKind.wrap .i64 ((k : Int) - 1) = ((k - 1 : Nat) : Int) := fun h => by rw [wrap_i64 (by omega) (by omega)]; omega
        have htg := tmap_get (s := s) hkc
        have go : ∀ x : Nat, x = bestN s g (k + 1) → BcI s g c.length [.int (x : Int), .int ((k + 1 : Nat) : Int)] ∧ Bcm c.length [.int (x : Int), .int ((k + 1 : Nat) : Int)] < c.length - k := fun x hx => by
          refine ⟨⟨k + 1, by rw [hx], by omega⟩, ?_⟩
          simp only [Bcm, List.getD_cons_zero, List.getD_cons_succ, asInt_int]; omega
        by_cases hk0 : k = 0
        · subst hk0
          simp only [Tree.den, E.den, P1.den, P2.den, P3.den, List.map_cons, List.map_nil, List.cons_append, List.nil_append, List.getD_cons_zero, List.getD_cons_succ, List.getElem?_cons_zero, List.getElem?_cons_succ, asInt_int, asBool_bool, asStr_str, asList_list, cells_agg, TV.cell, pre_zero, pre_succ, post_zero, post_succ, decide_eq_true_eq, decide_eq_false_iff_not, beq_iff_eq, beq_eq_false_iff_ne, Bool.not_eq_true', Bool.not_eq_false', ne_eq, List.length_cons, List.length_nil, forall_eq, Bool.false_eq_true, Bool.true_eq_false, Int.reduceToNat, Option.some.injEq, exists_eq_left', ints_asList, map_snoc, map_app, list_map, ints_nil, ints_get, ints_len, bs_get, Int.toNat_natCast, List.length_append, List.length_map, bs_length, hD, ek, List.drop_zero, List.length_take, hm, htg]
          refine ⟨fun _ => ⟨by omega, by omega, fun hlt => hfin _ ?_, fun hlt => ⟨fun _ => go 0 (by rw [hb, if_pos ⟨by omega, .inl rfl⟩]), fun h => absurd rfl h⟩⟩, fun h => by omega⟩
          rw [bestN_stop (n := c.length) hP.2.2 (i := 0) (by omega) hlt (by omega) (by omega)]
        · have ek1 := ek1 (by omega)
          simp only [Tree.den, E.den, P1.den, P2.den, P3.den, List.map_cons, List.map_nil, List.cons_append, List.nil_append, List.getD_cons_zero, List.getD_cons_succ, List.getElem?_cons_zero, List.getElem?_cons_succ, asInt_int, asBool_bool, asStr_str, asList_list, cells_agg, TV.cell, pre_zero, pre_succ, post_zero, post_succ, decide_eq_true_eq, decide_eq_false_iff_not, beq_iff_eq, beq_eq_false_iff_ne, Bool.not_eq_true', Bool.not_eq_false', ne_eq, List.length_cons, List.length_nil, forall_eq, Bool.false_eq_true, Bool.true_eq_false, Int.reduceToNat, Option.some.injEq, exists_eq_left', ints_asList, map_snoc, map_app, list_map, ints_nil, ints_get, ints_len, bs_get, Int.toNat_natCast, List.length_append, List.length_map, bs_length, hD, ek, ek1, List.drop_zero, List.length_take, hm, htg]
          refine ⟨fun _ => ⟨by omega, by omega, fun hlt => hfin _ ?_, fun hlt => ⟨fun h => absurd h (by omega), fun _ => ⟨by omega, by omega, fun hne => go k (by rw [hb, if_pos ⟨by omega, .inr fun e => hne e.symm⟩]), fun he => go _ (by rw [hb, if_neg fun e => e.2.elim (fun h => hk0 h) fun h => h he.symm])⟩⟩⟩, fun h => by omega⟩
          rw [bestN_stop (n := c.length) hP.2.2 (i := k) (by omega) hlt (by omega) (by omega)]
      · have : k = c.length := by omega
        subst this
        simp only [Tree.den, E.den, P1.den, P2.den, P3.den, List.map_cons, List.map_nil, List.cons_append, List.nil_append, List.getD_cons_zero, List.getD_cons_succ, List.getElem?_cons_zero, List.getElem?_cons_succ, asInt_int, asBool_bool, asStr_str, asList_list, cells_agg, TV.cell, pre_zero, pre_succ, post_zero, post_succ, decide_eq_true_eq, decide_eq_false_iff_not, beq_iff_eq, beq_eq_false_iff_ne, Bool.not_eq_true', Bool.not_eq_false', ne_eq, List.length_cons, List.length_nil, forall_eq, Bool.false_eq_true, Bool.true_eq_false, Int.reduceToNat, Option.some.injEq, exists_eq_left', ints_asList, map_snoc, map_app, list_map, ints_nil, ints_get, ints_len, bs_get, Int.toNat_natCast, List.length_append, List.length_map, bs_length, hD, List.drop_zero, List.length_take, hm]
        exact ⟨fun h => by omega, fun _ => hfin _ rfl⟩
  · have hsz := sizeT_neg hP
    simp only [Tree.den, E.den, P1.den, P2.den, P3.den, List.map_cons, List.map_nil, List.cons_append, List.nil_append, List.getD_cons_zero, List.getD_cons_succ, List.getElem?_cons_zero, List.getElem?_cons_succ, asInt_int, asBool_bool, asStr_str, asList_list, cells_agg, TV.cell, pre_zero, pre_succ, post_zero, post_succ, decide_eq_true_eq, decide_eq_false_iff_not, beq_iff_eq, beq_eq_false_iff_ne, Bool.not_eq_true', Bool.not_eq_false', ne_eq, List.length_cons, List.length_nil, forall_eq, Bool.false_eq_true, Bool.true_eq_false, Int.reduceToNat, Option.some.injEq, exists_eq_left', size_all, hsz]
    exact ⟨size_pre ⟨hc, hs⟩, fun _ => hfin _ (by rw [if_pos (.inl hP)]), fun h => absurd h (by simp)⟩)) rfl
def bglyphL : Law := ⟨fun ts => ∃ (c : List Int) (s : List Int) (g : Int), ts = [.agg [ints c, ints s], .int g] ∧ (c.length ≤ 1000000000 ∧ s.length ≤ 1000000000), fun ts z₀ => ∀ (c : List Int) (s : List Int) (g : Int), ts = [.agg [ints c, ints s], .int g] → z₀ = .int (glyphAt c s g)⟩
theorem bglyph_pre {c : List Int} {s : List Int} {g : Int} (h : c.length ≤ 1000000000 ∧ s.length ≤ 1000000000) : bglyphL.pre [.agg [ints c, ints s], .int g] := ⟨c, s, g, rfl, h⟩
theorem bglyph_fin {c : List Int} {s : List Int} {g : Int} {z₀ : TV} (h : z₀ = .int (glyphAt c s g)) : bglyphL.post [.agg [ints c, ints s], .int g] z₀ := fun c₁ s₁ g₁ e => by
  simp only [List.cons.injEq, TV.str.injEq, TV.int.injEq, TV.bool.injEq, TV.agg.injEq, TV.list.injEq, ints_eq, and_true, true_and, and_assoc] at e; obtain ⟨rfl, rfl, rfl⟩ := e
  exact h
theorem bglyph_all {c : List Int} {s : List Int} {g : Int} {Q : TV → Prop} : (∀ z₀, bglyphL.post [.agg [ints c, ints s], .int g] z₀ → Q z₀) ↔ Q (.int (glyphAt c s g)) := ⟨fun h => h _ (bglyph_fin rfl), fun h z₀ hr => by rw [hr _ _ _ rfl]; exact h⟩
theorem bglyph_c (k : Nat) : Contract Tryd.prog (mkEnv globT []) gtab (sn_brailleline_Glyph k) bglyphL.pre bglyphL.post := Contract.env (Γ := mkEnv globT [sizeL]) (contract_brailleline_Glyph (fun _ => rfl) (fun s hs => by
    simp only [cx_brailleline_Glyph, List.mem_cons, List.not_mem_nil, or_false] at hs
    rcases hs with rfl
    · exact Contract.inEnv rfl (size_c 0) rfl) k (by
  rintro ts hl ⟨c, s, g, rfl, hp⟩
  have hfin : ∀ z₀ : TV, z₀ = .int (glyphAt c s g) → bglyphL.post [.agg [ints c, ints s], .int g] z₀ := fun z₀ h => bglyph_fin h
  generalize bglyphL.post [.agg [ints c, ints s], .int g] = R at hfin ⊢
  unfold tr_brailleline_Glyph
  obtain ⟨hc, hs⟩ := hp
  unfold glyphAt at hfin
  by_cases hP : PL c s
  · have hsz := sizeT_pos hP
    have hlen := hP.1
    simp only [Tree.den, E.den, P1.den, P2.den, P3.den, List.map_cons, List.map_nil, List.cons_append, List.nil_append, List.getD_cons_zero, List.getD_cons_succ, List.getElem?_cons_zero, List.getElem?_cons_succ, asInt_int, asBool_bool, asStr_str, asList_list, cells_agg, TV.cell, pre_zero, pre_succ, post_zero, post_succ, decide_eq_true_eq, decide_eq_false_iff_not, beq_iff_eq, beq_eq_false_iff_ne, Bool.not_eq_true', Bool.not_eq_false', ne_eq, List.length_cons, List.length_nil, forall_eq, Bool.false_eq_true, Bool.true_eq_false, Int.reduceToNat, Option.some.injEq, exists_eq_left', size_all, hsz]
    simp only [Tree.den, E.den, P1.den, P2.den, P3.den, List.map_cons, List.map_nil, List.cons_append, List.nil_append, List.getD_cons_zero, List.getD_cons_succ, List.getElem?_cons_zero, List.getElem?_cons_succ, asInt_int, asBool_bool, asStr_str, asList_list, cells_agg, TV.cell, pre_zero, pre_succ, post_zero, post_succ, decide_eq_true_eq, decide_eq_false_iff_not, beq_iff_eq, beq_eq_false_iff_ne, Bool.not_eq_true', Bool.not_eq_false', ne_eq, List.length_cons, List.length_nil, forall_eq, Bool.false_eq_true, Bool.true_eq_false, Int.reduceToNat, Option.some.injEq, exists_eq_left', ints_asList, map_snoc, map_app, list_map, ints_nil, ints_get, ints_len, bs_get, Int.toNat_natCast, List.length_append, List.length_map, bs_length]
    refine ⟨size_pre ⟨hc, hs⟩, fun h => absurd h (by simp), fun _ => ⟨fun h1 => hfin _ (by rw [if_pos (.inr (.inl h1))]), fun h1 => ⟨fun h2 => hfin _ (by rw [if_pos (.inr (.inr h2))]), fun h2 => ⟨fun h3 => hfin _ ?_, fun h3 => ⟨by omega, by omega, hfin _ ?_⟩⟩⟩⟩⟩
    · rw [if_neg (by rintro (h | h | h) <;> first | exact h hP | omega), if_neg (by omega)]
    · rw [if_neg (by rintro (h | h | h) <;> first | exact h hP | omega), if_pos (by omega)]
  · have hsz := sizeT_neg hP
    simp only [Tree.den, E.den, P1.den, P2.den, P3.den, List.map_cons, List.map_nil, List.cons_append, List.nil_append, List.getD_cons_zero, List.getD_cons_succ, List.getElem?_cons_zero, List.getElem?_cons_succ, asInt_int, asBool_bool, asStr_str, asList_list, cells_agg, TV.cell, pre_zero, pre_succ, post_zero, post_succ, decide_eq_true_eq, decide_eq_false_iff_not, beq_iff_eq, beq_eq_false_iff_ne, Bool.not_eq_true', Bool.not_eq_false', ne_eq, List.length_cons, List.length_nil, forall_eq, Bool.false_eq_true, Bool.true_eq_false, Int.reduceToNat, Option.some.injEq, exists_eq_left', size_all, hsz]
    exact ⟨size_pre ⟨hc, hs⟩, fun _ => hfin _ (by rw [if_pos (.inl hP)]), fun h => absurd h (by simp)⟩)) rfl

/-! ### The reference -/
def PrI (s : List Int) (n : Nat) (xs : List TV) : Prop := ∃ k : Nat, xs = [.int k] ∧ k ≤ n + 1 ∧ (0 < k → 0 ≤ s.getD 0 0) ∧ ∀ j : Nat, j + 1 < k → s.getD j 0 ≤ s.getD (j + 1) 0
def Prm (n : Nat) (xs : List TV) : Nat := n + 1 - (xs.getD 0 (.int 0)).asInt.toNat
def properL : Law := ⟨fun ts => ∃ (c : List Int) (s : List Int), ts = [.agg [ints c, ints s]] ∧ (c.length ≤ 1000000000 ∧ s.length ≤ 1000000000), fun ts z₀ => ∀ (c : List Int) (s : List Int), ts = [.agg [ints c, ints s]] → z₀ = .bool (properB c s)⟩
theorem proper_pre {c : List Int} {s : List Int} (h : c.length ≤ 1000000000 ∧ s.length ≤ 1000000000) : properL.pre [.agg [ints c, ints s]] := ⟨c, s, rfl, h⟩
theorem proper_fin {c : List Int} {s : List Int} {z₀ : TV} (h : z₀ = .bool (properB c s)) : properL.post [.agg [ints c, ints s]] z₀ := fun c₁ s₁ e => by
  simp only [List.cons.injEq, TV.str.injEq, TV.int.injEq, TV.bool.injEq, TV.agg.injEq, TV.list.injEq, ints_eq, and_true, true_and, and_assoc] at e; obtain ⟨rfl, rfl⟩ := e
  exact h
theorem proper_all {c : List Int} {s : List Int} {Q : TV → Prop} : (∀ z₀, properL.post [.agg [ints c, ints s]] z₀ → Q z₀) ↔ Q (.bool (properB c s)) := ⟨fun h => h _ (proper_fin rfl), fun h z₀ hr => by rw [hr _ _ rfl]; exact h⟩
theorem proper_c (k : Nat) : Contract Tryd.prog (mkEnv globT []) gtab (sn_ref53_proper k) properL.pre properL.post := Contract.env (Γ := mkEnv globT []) (contract_ref53_proper (fun _ => rfl) (fun s hs => by
    cases hs) k (by
  rintro ts hl ⟨c, s, rfl, hp⟩
  have hfin : ∀ z₀ : TV, z₀ = .bool (properB c s) → properL.post [.agg [ints c, ints s]] z₀ := fun z₀ h => proper_fin h
  generalize properL.post [.agg [ints c, ints s]] = R at hfin ⊢
  unfold tr_ref53_proper
  obtain ⟨hc, hs⟩ := hp
  unfold properB at hfin
  have e1 : IntKind.wrap .i64 ((c.length : Int) + 1) = (c.length : Int) + 1 := wrap_i64 (by omega) (by omega)
  have no : ¬ PL c s → decide (PL c s) = false := fun h => decide_eq_false h
  simp only [Tree.den, E.den, P1.den, P2.den, P3.den, List.map_cons, List.map_nil, List.cons_append, List.nil_append, List.getD_cons_zero, List.getD_cons_succ, List.getElem?_cons_zero, List.getElem?_cons_succ, asInt_int, asBool_bool, asStr_str, asList_list, cells_agg, TV.cell, pre_zero, pre_succ, post_zero, post_succ, decide_eq_true_eq, decide_eq_false_iff_not, beq_iff_eq, beq_eq_false_iff_ne, Bool.not_eq_true', Bool.not_eq_false', ne_eq, List.length_cons, List.length_nil, forall_eq, Bool.false_eq_true, Bool.true_eq_false, Int.reduceToNat, Option.some.injEq, exists_eq_left']
  simp only [Tree.den, E.den, P1.den, P2.den, P3.den, List.map_cons, List.map_nil, List.cons_append, List.nil_append, List.getD_cons_zero, List.getD_cons_succ, List.getElem?_cons_zero, List.getElem?_cons_succ, asInt_int, asBool_bool, asStr_str, asList_list, cells_agg, TV.cell, pre_zero, pre_succ, post_zero, post_succ, decide_eq_true_eq, decide_eq_false_iff_not, beq_iff_eq, beq_eq_false_iff_ne, Bool.not_eq_true', Bool.not_eq_false', ne_eq, List.length_cons, List.length_nil, forall_eq, Bool.false_eq_true, Bool.true_eq_false, Int.reduceToNat, Option.some.injEq, exists_eq_left', ints_asList, map_snoc, map_app, list_map, ints_nil, ints_get, ints_len, bs_get, Int.toNat_natCast, List.length_append, List.length_map, bs_length, e1]
  refine ⟨fun h => hfin _ ?_, fun h => ⟨PrI s c.length, Prm c.length, ⟨0, rfl, by omega, fun h => by omega, fun j h => by omega⟩, ?_⟩⟩
  · rw [no fun hp => h (by have := hp.1; omega)]
  rintro xs _ ⟨k, rfl, hk, h0, hu⟩
  have hD : Prm c.length [.int (k : Int)] = c.length + 1 - k := rfl
  have ek : IntKind.wrap .i64 ((k : Int) + 1) = ((k + 1 : Nat) : Int) := by rw [wrap_i64 (n := (k : Int) + 1) (by omega) (by omega)]; omega
  have go : k < c.length + 1 → 0 ≤ s.getD k 0 → (0 < k → s.getD (k - 1) 0 ≤ s.getD k 0) → PrI s c.length [.int ((k + 1 : Nat) : Int)] ∧ Prm c.length [.int ((k + 1 : Nat) : Int)] < c.length + 1 - k := fun h1 h2 h3 => by
    refine ⟨⟨k + 1, rfl, by omega, fun _ => ?_, fun j hj => ?_⟩, ?_⟩
    · rcases Nat.eq_zero_or_pos k with h | h
      · subst h; exact h2
      · exact h0 h
    · rcases Nat.lt_or_ge (j + 1) k with h | h
      · exact hu j h
      · have : j = k - 1 := by omega
        subst this
        rw [show k - 1 + 1 = k by omega]
        exact h3 (by omega)
    · simp only [Prm, List.getD_cons_zero, asInt_int]; omega
  by_cases hk0 : 0 < k
  · have ek1 : IntKind.wrap .i64 ((k : Int) - 1) = ((k - 1 : Nat) : Int) := by rw [wrap_i64 (by omega) (by omega)]; omega
    simp only [Tree.den, E.den, P1.den, P2.den, P3.den, List.map_cons, List.map_nil, List.cons_append, List.nil_append, List.getD_cons_zero, List.getD_cons_succ, List.getElem?_cons_zero, List.getElem?_cons_succ, asInt_int, asBool_bool, asStr_str, asList_list, cells_agg, TV.cell, pre_zero, pre_succ, post_zero, post_succ, decide_eq_true_eq, decide_eq_false_iff_not, beq_iff_eq, beq_eq_false_iff_ne, Bool.not_eq_true', Bool.not_eq_false', ne_eq, List.length_cons, List.length_nil, forall_eq, Bool.false_eq_true, Bool.true_eq_false, Int.reduceToNat, Option.some.injEq, exists_eq_left', ints_asList, map_snoc, map_app, list_map, ints_nil, ints_get, ints_len, bs_get, Int.toNat_natCast, List.length_append, List.length_map, bs_length, hD, ek, ek1]
    refine ⟨fun hle => ⟨by omega, by omega, fun hn => hfin _ ?_, fun hn => ⟨fun _ => ⟨by omega, by omega, by omega, by omega, fun hd => hfin _ ?_, fun hd => go (by omega) (by omega) (fun _ => by omega)⟩, fun h => by omega⟩⟩, fun hle => hfin _ ?_⟩
    · rw [no fun hp => absurd (hp.pos (i := k) (by omega)) (by omega)]
    · rw [no fun hp => absurd (hp.2.2 (k - 1) (by omega)) (by rw [show k - 1 + 1 = k by omega]; omega)]
    · rw [decide_eq_true ⟨by omega, h0 hk0, fun j hj => hu j (by omega)⟩]
  · have : k = 0 := by omega
    subst this
    simp only [Tree.den, E.den, P1.den, P2.den, P3.den, List.map_cons, List.map_nil, List.cons_append, List.nil_append, List.getD_cons_zero, List.getD_cons_succ, List.getElem?_cons_zero, List.getElem?_cons_succ, asInt_int, asBool_bool, asStr_str, asList_list, cells_agg, TV.cell, pre_zero, pre_succ, post_zero, post_succ, decide_eq_true_eq, decide_eq_false_iff_not, beq_iff_eq, beq_eq_false_iff_ne, Bool.not_eq_true', Bool.not_eq_false', ne_eq, List.length_cons, List.length_nil, forall_eq, Bool.false_eq_true, Bool.true_eq_false, Int.reduceToNat, Option.some.injEq, exists_eq_left', ints_asList, map_snoc, map_app, list_map, ints_nil, ints_get, ints_len, bs_get, Int.toNat_natCast, List.length_append, List.length_map, bs_length, hD, ek]
    refine ⟨fun hle => ⟨by omega, by omega, fun hn => hfin _ ?_, fun hn => ⟨fun h => by omega, fun _ => go (by omega) (by omega) (fun h => by omega)⟩⟩, fun hle => by omega⟩
    · rw [no fun hp => absurd hp.2.1 (by omega)])) rfl
def rcellL : Law := ⟨fun ts => ∃ (c : List Int) (s : List Int) (g : Int), ts = [.agg [ints c, ints s], .int g] ∧ (c.length ≤ 1000000000 ∧ s.length ≤ 1000000000), fun ts z₀ => ∀ (c : List Int) (s : List Int) (g : Int), ts = [.agg [ints c, ints s], .int g] → z₀ = .int (cellAt c s g)⟩
theorem rcell_pre {c : List Int} {s : List Int} {g : Int} (h : c.length ≤ 1000000000 ∧ s.length ≤ 1000000000) : rcellL.pre [.agg [ints c, ints s], .int g] := ⟨c, s, g, rfl, h⟩
theorem rcell_fin {c : List Int} {s : List Int} {g : Int} {z₀ : TV} (h : z₀ = .int (cellAt c s g)) : rcellL.post [.agg [ints c, ints s], .int g] z₀ := fun c₁ s₁ g₁ e => by
  simp only [List.cons.injEq, TV.str.injEq, TV.int.injEq, TV.bool.injEq, TV.agg.injEq, TV.list.injEq, ints_eq, and_true, true_and, and_assoc] at e; obtain ⟨rfl, rfl, rfl⟩ := e
  exact h
theorem rcell_all {c : List Int} {s : List Int} {g : Int} {Q : TV → Prop} : (∀ z₀, rcellL.post [.agg [ints c, ints s], .int g] z₀ → Q z₀) ↔ Q (.int (cellAt c s g)) := ⟨fun h => h _ (rcell_fin rfl), fun h z₀ hr => by rw [hr _ _ _ rfl]; exact h⟩
theorem rcell_c (k : Nat) : Contract Tryd.prog (mkEnv globT []) gtab (sn_ref53_Cell k) rcellL.pre rcellL.post := Contract.env (Γ := mkEnv globT [properL]) (contract_ref53_Cell (fun _ => rfl) (fun s hs => by
    simp only [cx_ref53_Cell, List.mem_cons, List.not_mem_nil, or_false] at hs
    rcases hs with rfl
    · exact Contract.inEnv rfl (proper_c 0) rfl) k (by
  rintro ts hl ⟨c, s, g, rfl, hp⟩
  have hfin : ∀ z₀ : TV, z₀ = .int (cellAt c s g) → rcellL.post [.agg [ints c, ints s], .int g] z₀ := fun z₀ h => rcell_fin h
  generalize rcellL.post [.agg [ints c, ints s], .int g] = R at hfin ⊢
  unfold tr_ref53_Cell
  obtain ⟨hc, hs⟩ := hp
  unfold cellAt at hfin
  by_cases hP : PL c s
  · have hsz : properB c s = true := decide_eq_true hP
    have hlen := hP.1
    have hn0 : 0 ≤ s.getD c.length 0 := hP.pos (by omega)
    simp only [Tree.den, E.den, P1.den, P2.den, P3.den, List.map_cons, List.map_nil, List.cons_append, List.nil_append, List.getD_cons_zero, List.getD_cons_succ, List.getElem?_cons_zero, List.getElem?_cons_succ, asInt_int, asBool_bool, asStr_str, asList_list, cells_agg, TV.cell, pre_zero, pre_succ, post_zero, post_succ, decide_eq_true_eq, decide_eq_false_iff_not, beq_iff_eq, beq_eq_false_iff_ne, Bool.not_eq_true', Bool.not_eq_false', ne_eq, List.length_cons, List.length_nil, forall_eq, Bool.false_eq_true, Bool.true_eq_false, Int.reduceToNat, Option.some.injEq, exists_eq_left', proper_all, hsz]
    simp only [Tree.den, E.den, P1.den, P2.den, P3.den, List.map_cons, List.map_nil, List.cons_append, List.nil_append, List.getD_cons_zero, List.getD_cons_succ, List.getElem?_cons_zero, List.getElem?_cons_succ, asInt_int, asBool_bool, asStr_str, asList_list, cells_agg, TV.cell, pre_zero, pre_succ, post_zero, post_succ, decide_eq_true_eq, decide_eq_false_iff_not, beq_iff_eq, beq_eq_false_iff_ne, Bool.not_eq_true', Bool.not_eq_false', ne_eq, List.length_cons, List.length_nil, forall_eq, Bool.false_eq_true, Bool.true_eq_false, Int.reduceToNat, Option.some.injEq, exists_eq_left', ints_asList, map_snoc, map_app, list_map, ints_nil, ints_get, ints_len, bs_get, Int.toNat_natCast, List.length_append, List.length_map, bs_length]
    refine ⟨fun h1 => hfin _ (by rw [if_pos (.inr (.inl h1))]), fun h1 => ⟨fun h2 => hfin _ (by rw [if_pos (.inr (.inr h2))]), fun h2 => ⟨proper_pre ⟨hc, hs⟩, fun h => absurd h (by simp), fun _ => ⟨by omega, by omega, fun h3 => hfin _ ?_, fun h3 => ?_⟩⟩⟩⟩
    · rw [if_neg (by rintro (h | h | h) <;> first | exact h hP | omega), if_pos h3, wrap_i64 (n := (c.length : Int) + g) (by omega) (by omega), wrap_i64 (by omega) (by omega)]
    · rw [if_neg (by rintro (h | h | h) <;> first | exact h hP | omega), if_neg h3] at hfin
      refine ⟨BcI s g c.length, Bcm c.length, ⟨0, rfl, by omega⟩, ?_⟩
      rintro xs _ ⟨k, rfl, hk⟩
      have hD : ∀ a, Bcm c.length [a, .int (k : Int)] = c.length - k := fun _ => rfl
      have hb := bestN_succ s g k
      by_cases hkc : k < c.length
      · have ek : IntKind.wrap .i64 ((k : Int) + 1) = ((k + 1 : Nat) : Int) := by rw [wrap_i64 (n := (k : Int) + 1) (by omega) (by omega)]; omega
        have ek1 : 0 < k → IntKind.wrap .i64 ((k : Int) - 1) = ((k - 1 : Nat) : Int) := fun h => by rw [wrap_i64 (by omega) (by omega)]; omega
        have go : ∀ x : Nat, x = bestN s g (k + 1) → BcI s g c.length [.int (x : Int), .int ((k + 1 : Nat) : Int)] ∧ Bcm c.length [.int (x : Int), .int ((k + 1 : Nat) : Int)] < c.length - k := fun x hx => by
          refine ⟨⟨k + 1, by rw [hx], by omega⟩, ?_⟩
          simp only [Bcm, List.getD_cons_zero, List.getD_cons_succ, asInt_int]; omega
        by_cases hk0 : k = 0
        · subst hk0
          simp only [Tree.den, E.den, P1.den, P2.den, P3.den, List.map_cons, List.map_nil, List.cons_append, List.nil_append, List.getD_cons_zero, List.getD_cons_succ, List.getElem?_cons_zero, List.getElem?_cons_succ, asInt_int, asBool_bool, asStr_str, asList_list, cells_agg, TV.cell, pre_zero, pre_succ, post_zero, post_succ, decide_eq_true_eq, decide_eq_false_iff_not, beq_iff_eq, beq_eq_false_iff_ne, Bool.not_eq_true', Bool.not_eq_false', ne_eq, List.length_cons, List.length_nil, forall_eq, Bool.false_eq_true, Bool.true_eq_false, Int.reduceToNat, Option.some.injEq, exists_eq_left', ints_asList, map_snoc, map_app, list_map, ints_nil, ints_get, ints_len, bs_get, Int.toNat_natCast, List.length_append, List.length_map, bs_length, hD, ek]
          exact ⟨fun _ => ⟨by omega, by omega, fun hle => ⟨fun _ => go 0 (by rw [hb, if_pos ⟨hle, .inl rfl⟩]), fun h => absurd rfl h⟩, fun hle => go _ (by rw [hb, if_neg fun e => hle e.1])⟩, fun h => by omega⟩
        · have ek1 := ek1 (by omega)
          simp only [Tree.den, E.den, P1.den, P2.den, P3.den, List.map_cons, List.map_nil, List.cons_append, List.nil_append, List.getD_cons_zero, List.getD_cons_succ, List.getElem?_cons_zero, List.getElem?_cons_succ, asInt_int, asBool_bool, asStr_str, asList_list, cells_agg, TV.cell, pre_zero, pre_succ, post_zero, post_succ, decide_eq_true_eq, decide_eq_false_iff_not, beq_iff_eq, beq_eq_false_iff_ne, Bool.not_eq_true', Bool.not_eq_false', ne_eq, List.length_cons, List.length_nil, forall_eq, Bool.false_eq_true, Bool.true_eq_false, Int.reduceToNat, Option.some.injEq, exists_eq_left', ints_asList, map_snoc, map_app, list_map, ints_nil, ints_get, ints_len, bs_get, Int.toNat_natCast, List.length_append, List.length_map, bs_length, hD, ek, ek1]
          exact ⟨fun _ => ⟨by omega, by omega, fun hle => ⟨fun h => absurd h (by omega), fun _ => ⟨by omega, by omega, by omega, by omega, fun hne => go k (by rw [hb, if_pos ⟨hle, .inr hne⟩]), fun he => go _ (by rw [hb, if_neg fun e => e.2.elim (fun h => hk0 h) fun h => h he])⟩⟩, fun hle => go _ (by rw [hb, if_neg fun e => hle e.1])⟩, fun h => by omega⟩
      · have : k = c.length := by omega
        subst this
        simp only [Tree.den, E.den, P1.den, P2.den, P3.den, List.map_cons, List.map_nil, List.cons_append, List.nil_append, List.getD_cons_zero, List.getD_cons_succ, List.getElem?_cons_zero, List.getElem?_cons_succ, asInt_int, asBool_bool, asStr_str, asList_list, cells_agg, TV.cell, pre_zero, pre_succ, post_zero, post_succ, decide_eq_true_eq, decide_eq_false_iff_not, beq_iff_eq, beq_eq_false_iff_ne, Bool.not_eq_true', Bool.not_eq_false', ne_eq, List.length_cons, List.length_nil, forall_eq, Bool.false_eq_true, Bool.true_eq_false, Int.reduceToNat, Option.some.injEq, exists_eq_left', ints_asList, map_snoc, map_app, list_map, ints_nil, ints_get, ints_len, bs_get, Int.toNat_natCast, List.length_append, List.length_map, bs_length, hD]
        exact ⟨fun h => by omega, fun _ => hfin _ rfl⟩
  · have hsz : properB c s = false := decide_eq_false hP
    simp only [Tree.den, E.den, P1.den, P2.den, P3.den, List.map_cons, List.map_nil, List.cons_append, List.nil_append, List.getD_cons_zero, List.getD_cons_succ, List.getElem?_cons_zero, List.getElem?_cons_succ, asInt_int, asBool_bool, asStr_str, asList_list, cells_agg, TV.cell, pre_zero, pre_succ, post_zero, post_succ, decide_eq_true_eq, decide_eq_false_iff_not, beq_iff_eq, beq_eq_false_iff_ne, Bool.not_eq_true', Bool.not_eq_false', ne_eq, List.length_cons, List.length_nil, forall_eq, Bool.false_eq_true, Bool.true_eq_false, Int.reduceToNat, Option.some.injEq, exists_eq_left', proper_all, hsz]
    exact ⟨fun h1 => hfin _ (by rw [if_pos (.inr (.inl h1))]), fun h1 => ⟨fun h2 => hfin _ (by rw [if_pos (.inr (.inr h2))]), fun h2 => ⟨proper_pre ⟨hc, hs⟩, fun _ => hfin _ (by rw [if_pos (.inl hP)]), fun h => absurd h (by simp)⟩⟩⟩)) rfl
def rglyphL : Law := ⟨fun ts => ∃ (c : List Int) (s : List Int) (g : Int), ts = [.agg [ints c, ints s], .int g] ∧ (c.length ≤ 1000000000 ∧ s.length ≤ 1000000000), fun ts z₀ => ∀ (c : List Int) (s : List Int) (g : Int), ts = [.agg [ints c, ints s], .int g] → z₀ = .int (glyphAt c s g)⟩
theorem rglyph_pre {c : List Int} {s : List Int} {g : Int} (h : c.length ≤ 1000000000 ∧ s.length ≤ 1000000000) : rglyphL.pre [.agg [ints c, ints s], .int g] := ⟨c, s, g, rfl, h⟩
theorem rglyph_fin {c : List Int} {s : List Int} {g : Int} {z₀ : TV} (h : z₀ = .int (glyphAt c s g)) : rglyphL.post [.agg [ints c, ints s], .int g] z₀ := fun c₁ s₁ g₁ e => by
  simp only [List.cons.injEq, TV.str.injEq, TV.int.injEq, TV.bool.injEq, TV.agg.injEq, TV.list.injEq, ints_eq, and_true, true_and, and_assoc] at e; obtain ⟨rfl, rfl, rfl⟩ := e
  exact h
theorem rglyph_all {c : List Int} {s : List Int} {g : Int} {Q : TV → Prop} : (∀ z₀, rglyphL.post [.agg [ints c, ints s], .int g] z₀ → Q z₀) ↔ Q (.int (glyphAt c s g)) := ⟨fun h => h _ (rglyph_fin rfl), fun h z₀ hr => by rw [hr _ _ _ rfl]; exact h⟩
theorem rglyph_c (k : Nat) : Contract Tryd.prog (mkEnv globT []) gtab (sn_ref53_Glyph k) rglyphL.pre rglyphL.post := Contract.env (Γ := mkEnv globT [properL]) (contract_ref53_Glyph (fun _ => rfl) (fun s hs => by
    simp only [cx_ref53_Glyph, List.mem_cons, List.not_mem_nil, or_false] at hs
    rcases hs with rfl
    · exact Contract.inEnv rfl (proper_c 0) rfl) k (by
  rintro ts hl ⟨c, s, g, rfl, hp⟩
  have hfin : ∀ z₀ : TV, z₀ = .int (glyphAt c s g) → rglyphL.post [.agg [ints c, ints s], .int g] z₀ := fun z₀ h => rglyph_fin h
  generalize rglyphL.post [.agg [ints c, ints s], .int g] = R at hfin ⊢
  unfold tr_ref53_Glyph
  obtain ⟨hc, hs⟩ := hp
  unfold glyphAt at hfin
  by_cases hP : PL c s
  · have hsz : properB c s = true := decide_eq_true hP
    have hlen := hP.1
    simp only [Tree.den, E.den, P1.den, P2.den, P3.den, List.map_cons, List.map_nil, List.cons_append, List.nil_append, List.getD_cons_zero, List.getD_cons_succ, List.getElem?_cons_zero, List.getElem?_cons_succ, asInt_int, asBool_bool, asStr_str, asList_list, cells_agg, TV.cell, pre_zero, pre_succ, post_zero, post_succ, decide_eq_true_eq, decide_eq_false_iff_not, beq_iff_eq, beq_eq_false_iff_ne, Bool.not_eq_true', Bool.not_eq_false', ne_eq, List.length_cons, List.length_nil, forall_eq, Bool.false_eq_true, Bool.true_eq_false, Int.reduceToNat, Option.some.injEq, exists_eq_left', proper_all, hsz]
    simp only [Tree.den, E.den, P1.den, P2.den, P3.den, List.map_cons, List.map_nil, List.cons_append, List.nil_append, List.getD_cons_zero, List.getD_cons_succ, List.getElem?_cons_zero, List.getElem?_cons_succ, asInt_int, asBool_bool, asStr_str, asList_list, cells_agg, TV.cell, pre_zero, pre_succ, post_zero, post_succ, decide_eq_true_eq, decide_eq_false_iff_not, beq_iff_eq, beq_eq_false_iff_ne, Bool.not_eq_true', Bool.not_eq_false', ne_eq, List.length_cons, List.length_nil, forall_eq, Bool.false_eq_true, Bool.true_eq_false, Int.reduceToNat, Option.some.injEq, exists_eq_left', ints_asList, map_snoc, map_app, list_map, ints_nil, ints_get, ints_len, bs_get, Int.toNat_natCast, List.length_append, List.length_map, bs_length]
    refine ⟨fun h1 => hfin _ (by rw [if_pos (.inr (.inl h1))]), fun h1 => ⟨fun h2 => hfin _ (by rw [if_pos (.inr (.inr h2))]), fun h2 => ⟨proper_pre ⟨hc, hs⟩, fun h => absurd h (by simp), fun _ => ⟨fun h3 => ⟨by omega, by omega, hfin _ ?_⟩, fun h3 => ⟨by omega, by omega, hfin _ ?_⟩⟩⟩⟩⟩
    · rw [if_neg (by rintro (h | h | h) <;> first | exact h hP | omega), if_pos (by omega)]
    · rw [if_neg (by rintro (h | h | h) <;> first | exact h hP | omega), if_neg (by omega)]
  · have hsz : properB c s = false := decide_eq_false hP
    simp only [Tree.den, E.den, P1.den, P2.den, P3.den, List.map_cons, List.map_nil, List.cons_append, List.nil_append, List.getD_cons_zero, List.getD_cons_succ, List.getElem?_cons_zero, List.getElem?_cons_succ, asInt_int, asBool_bool, asStr_str, asList_list, cells_agg, TV.cell, pre_zero, pre_succ, post_zero, post_succ, decide_eq_true_eq, decide_eq_false_iff_not, beq_iff_eq, beq_eq_false_iff_ne, Bool.not_eq_true', Bool.not_eq_false', ne_eq, List.length_cons, List.length_nil, forall_eq, Bool.false_eq_true, Bool.true_eq_false, Int.reduceToNat, Option.some.injEq, exists_eq_left', proper_all, hsz]
    exact ⟨fun h1 => hfin _ (by rw [if_pos (.inr (.inl h1))]), fun h1 => ⟨fun h2 => hfin _ (by rw [if_pos (.inr (.inr h2))]), fun h2 => ⟨proper_pre ⟨hc, hs⟩, fun _ => hfin _ (by rw [if_pos (.inl hP)]), fun h => absurd h (by simp)⟩⟩⟩)) rfl
def lsameL : Law := ⟨fun ts => ∃ (a : List Int) (b : List Int) (c : List Int) (d : List Int), ts = [.agg [ints a, ints b], .agg [ints c, ints d]] ∧ (a.length ≤ 1000000000 ∧ b.length ≤ 1000000000), fun ts z₀ => ∀ (a : List Int) (b : List Int) (c : List Int) (d : List Int), ts = [.agg [ints a, ints b], .agg [ints c, ints d]] → z₀ = .bool (decide (a = c) && decide (b = d))⟩
theorem lsame_pre {a : List Int} {b : List Int} {c : List Int} {d : List Int} (h : a.length ≤ 1000000000 ∧ b.length ≤ 1000000000) : lsameL.pre [.agg [ints a, ints b], .agg [ints c, ints d]] := ⟨a, b, c, d, rfl, h⟩
theorem lsame_fin {a : List Int} {b : List Int} {c : List Int} {d : List Int} {z₀ : TV} (h : z₀ = .bool (decide (a = c) && decide (b = d))) : lsameL.post [.agg [ints a, ints b], .agg [ints c, ints d]] z₀ := fun a₁ b₁ c₁ d₁ e => by
  simp only [List.cons.injEq, TV.str.injEq, TV.int.injEq, TV.bool.injEq, TV.agg.injEq, TV.list.injEq, ints_eq, and_true, true_and, and_assoc] at e; obtain ⟨rfl, rfl, rfl, rfl⟩ := e
  exact h
theorem lsame_all {a : List Int} {b : List Int} {c : List Int} {d : List Int} {Q : TV → Prop} : (∀ z₀, lsameL.post [.agg [ints a, ints b], .agg [ints c, ints d]] z₀ → Q z₀) ↔ Q (.bool (decide (a = c) && decide (b = d))) := ⟨fun h => h _ (lsame_fin rfl), fun h z₀ hr => by rw [hr _ _ _ _ rfl]; exact h⟩
theorem lsame_c (k : Nat) : Contract Tryd.prog (mkEnv globT []) gtab (sn_ref53_Same k) lsameL.pre lsameL.post := Contract.env (Γ := mkEnv globT [sameL, sintL]) (contract_ref53_Same (fun _ => rfl) (fun s hs => by
    simp only [cx_ref53_Same, List.mem_cons, List.not_mem_nil, or_false] at hs
    rcases hs with rfl | rfl
    · exact Contract.inEnv rfl (same_c 0) rfl
    · exact Contract.inEnv rfl (sint_c 1) rfl) k (by
  rintro ts hl ⟨a, b, c, d, rfl, hp⟩
  have hfin : ∀ z₀ : TV, z₀ = .bool (decide (a = c) && decide (b = d)) → lsameL.post [.agg [ints a, ints b], .agg [ints c, ints d]] z₀ := fun z₀ h => lsame_fin h
  generalize lsameL.post [.agg [ints a, ints b], .agg [ints c, ints d]] = R at hfin ⊢
  unfold tr_ref53_Same
  obtain ⟨h1, h2⟩ := hp
  simp only [Tree.den, E.den, P1.den, P2.den, P3.den, List.map_cons, List.map_nil, List.cons_append, List.nil_append, List.getD_cons_zero, List.getD_cons_succ, List.getElem?_cons_zero, List.getElem?_cons_succ, asInt_int, asBool_bool, asStr_str, asList_list, cells_agg, TV.cell, pre_zero, pre_succ, post_zero, post_succ, decide_eq_true_eq, decide_eq_false_iff_not, beq_iff_eq, beq_eq_false_iff_ne, Bool.not_eq_true', Bool.not_eq_false', ne_eq, List.length_cons, List.length_nil, forall_eq, Bool.false_eq_true, Bool.true_eq_false, Int.reduceToNat, Option.some.injEq, exists_eq_left', same_all, sint_all]
  refine ⟨same_pre (by omega), fun h => ⟨sint_pre (by omega), hfin _ (by rw [decide_eq_true h, Bool.true_and])⟩, fun h => hfin _ (by rw [decide_eq_false h, Bool.false_and])⟩)) rfl
end Go.Proofs.YtbeelajedknohaaDoor
