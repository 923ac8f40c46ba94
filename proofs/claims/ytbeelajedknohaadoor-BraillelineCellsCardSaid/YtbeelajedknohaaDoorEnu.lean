/- The contract of the reference's Encode. -/
import Derived.Test.YtbeelajedknohaaDoorEnt
namespace Go.Proofs.YtbeelajedknohaaDoor
set_option linter.unusedSimpArgs false
set_option linter.unusedVariables false
set_option linter.unusedSectionVars false
open Go.Lib (encodeRuneZ)

def rencL : Law := ⟨fun ts => ∃ (l : List Int), ts = [ints l] ∧ (Run l ∧ l.length ≤ 100000000000), fun ts z₀ => ∀ (l : List Int), ts = [ints l] → z₀ = .str (unbs (encZ l))⟩
theorem renc_pre {l : List Int} (h : Run l ∧ l.length ≤ 100000000000) : rencL.pre [ints l] := ⟨l, rfl, h⟩
theorem renc_fin {l : List Int} {z₀ : TV} (h : z₀ = .str (unbs (encZ l))) : rencL.post [ints l] z₀ := fun l₁ e => by
  simp only [List.cons.injEq, TV.str.injEq, TV.int.injEq, TV.bool.injEq, TV.agg.injEq, TV.list.injEq, ints_eq, and_true, true_and, and_assoc] at e; subst e
  exact h
theorem renc_all {l : List Int} {Q : TV → Prop} : (∀ z₀, rencL.post [ints l] z₀ → Q z₀) ↔ Q (.str (unbs (encZ l))) := ⟨fun h => h _ (renc_fin rfl), fun h z₀ hr => by rw [hr _ rfl]; exact h⟩
theorem renc_c (k : Nat) : Contract Tryd.prog (mkEnv globT []) gtab (sn_ref01_Encode k) rencL.pre rencL.post := Contract.env (Γ := mkEnv globT []) (contract_ref01_Encode (fun _ => rfl) (fun s hs => by
    cases hs) k (by
  rintro ts hl ⟨l, rfl, hp⟩
  have hfin : ∀ z₀ : TV, z₀ = .str (unbs (encZ l)) → rencL.post [ints l] z₀ := fun z₀ h => renc_fin h
  generalize rencL.post [ints l] = R at hfin ⊢
  unfold tr_ref01_Encode
  obtain ⟨hr, hsz⟩ := hp
  simp only [Tree.den, E.den, P1.den, P2.den, P3.den, List.map_cons, List.map_nil, List.cons_append, List.nil_append, List.getD_cons_zero, List.getD_cons_succ, List.getElem?_cons_zero, List.getElem?_cons_succ, asInt_int, asBool_bool, asStr_str, asList_list, cells_agg, TV.cell, pre_zero, pre_succ, post_zero, post_succ, decide_eq_true_eq, decide_eq_false_iff_not, beq_iff_eq, beq_eq_false_iff_ne, Bool.not_eq_true', Bool.not_eq_false', ne_eq, List.length_cons, List.length_nil, forall_eq, Bool.false_eq_true, Bool.true_eq_false, Int.reduceToNat, Option.some.injEq, exists_eq_left']
  simp only [Tree.den, E.den, P1.den, P2.den, P3.den, List.map_cons, List.map_nil, List.cons_append, List.nil_append, List.getD_cons_zero, List.getD_cons_succ, List.getElem?_cons_zero, List.getElem?_cons_succ, asInt_int, asBool_bool, asStr_str, asList_list, cells_agg, TV.cell, pre_zero, pre_succ, post_zero, post_succ, decide_eq_true_eq, decide_eq_false_iff_not, beq_iff_eq, beq_eq_false_iff_ne, Bool.not_eq_true', Bool.not_eq_false', ne_eq, List.length_cons, List.length_nil, forall_eq, Bool.false_eq_true, Bool.true_eq_false, Int.reduceToNat, Option.some.injEq, exists_eq_left', ints_asList, map_snoc, map_app, list_map, ints_nil, ints_get, ints_len, bs_get, Int.toNat_natCast, List.length_append, List.length_map, bs_length]
  refine ⟨EI l, Em l, ⟨0, rfl, by omega⟩, ?_⟩
  rintro xs _ ⟨k, rfl, hk⟩
  have hD : ∀ o, Em l [.int (k : Int), o] = l.length - k := fun o => rfl
  have hel := encZ_len (l.take k)
  have htl := List.length_take_le k l
  simp only [Tree.den, E.den, P1.den, P2.den, P3.den, List.map_cons, List.map_nil, List.cons_append, List.nil_append, List.getD_cons_zero, List.getD_cons_succ, List.getElem?_cons_zero, List.getElem?_cons_succ, asInt_int, asBool_bool, asStr_str, asList_list, cells_agg, TV.cell, pre_zero, pre_succ, post_zero, post_succ, decide_eq_true_eq, decide_eq_false_iff_not, beq_iff_eq, beq_eq_false_iff_ne, Bool.not_eq_true', Bool.not_eq_false', ne_eq, List.length_cons, List.length_nil, forall_eq, Bool.false_eq_true, Bool.true_eq_false, Int.reduceToNat, Option.some.injEq, exists_eq_left', ints_asList, map_snoc, map_app, list_map, ints_nil, ints_get, ints_len, bs_get, Int.toNat_natCast, List.length_append, List.length_map, bs_length, hD]
  have e64 : IntKind.wrap .i64 ((k : Int) + 1) = ((k + 1 : Nat) : Int) := by rw [wrap_i64 (n := (k : Int) + 1) (by omega) (by omega)]; omega
  rw [e64]
  refine ⟨fun hlt => ⟨by omega, by omega, ?_⟩, fun hlt => ?_⟩
  · have hkl : k < l.length := by omega
    have hn := hr _ (getD_mem hkl)
    have hs := take_snoc hkl
    generalize hnn : l.getD k 0 = n at *
    have go : ∀ w, w = encodeRuneZ n → EI l [.int ((k + 1 : Nat) : Int), ints (encZ (l.take k) ++ w)] ∧ Em l [.int ((k + 1 : Nat) : Int), ints (encZ (l.take k) ++ w)] < l.length - k := fun w hw => by
      refine ⟨⟨k + 1, ?_, by omega⟩, ?_⟩
      · rw [hs, encZ_append, encZ_one, hw]
      · simp only [Em, List.getD_cons_zero, asInt_int]; omega
    have l1 : ∀ a : Int, [TV.int a] = [a].map TV.int := fun _ => rfl
    have lc : ∀ (a : Int) (m : List Int), TV.int a :: m.map TV.int = (a :: m).map TV.int := fun _ _ => rfl
    simp only [l1, lc, map_app, list_map]
    repeat' (first
      | (refine go _ ?_
         try simp (disch := omega) only [wrap_i32, Int.tdiv_eq_ediv_of_nonneg, Int.tmod_eq_emod_of_nonneg, wrap_u8]
         unfold encodeRuneZ
         repeat' split
         all_goals first
           | (exfalso; omega)
           | (simp only [List.cons.injEq, and_true]; omega)
           | rfl)
      | (refine ⟨fun _ => ?_, fun _ => ?_⟩)
      | (refine ⟨by omega, ?_⟩))
  · have : k = l.length := by omega
    subst this
    refine hfin _ ?_
    rw [List.take_of_length_le (Nat.le_refl _), map_byteOf])) rfl
