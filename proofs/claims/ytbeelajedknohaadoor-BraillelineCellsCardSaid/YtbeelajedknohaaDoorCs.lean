/- The contract of ref51.Same. -/
import Derived.Test.YtbeelajedknohaaDoorCr
namespace Go.Proofs.YtbeelajedknohaaDoor
set_option linter.unusedSimpArgs false
set_option linter.unusedVariables false
set_option linter.unusedSectionVars false

/-! ### Same, awake -/
def sameL : Law := ⟨fun ts => ∃ a b, ts = [ints a, ints b] ∧ a.length ≤ 1099511627776, fun ts r => ∀ a b, ts = [ints a, ints b] → r = .bool (decide (a = b))⟩
theorem same_pre {a b : List Int} (h : a.length ≤ 1099511627776) : sameL.pre [ints a, ints b] := ⟨a, b, rfl, h⟩
theorem same_all {a b : List Int} {Q : TV → Prop} : (∀ r, sameL.post [ints a, ints b] r → Q r) ↔ Q (.bool (decide (a = b))) :=
  ⟨fun h => h _ fun a' b' e => by simp only [List.cons.injEq, and_true] at e; rw [ints_inj e.1, ints_inj e.2], fun h r hr => by rw [hr a b rfl]; exact h⟩
def QI (a b : List Int) (xs : List TV) : Prop := ∃ k : Nat, xs = [.int k] ∧ k ≤ a.length ∧ a.take k = b.take k
def Qm (a : List Int) (xs : List TV) : Nat := a.length - (xs.getD 0 (.int 0)).asInt.toNat
theorem same_c (k : Nat) : Contract Tryd.prog (mkEnv globT []) gtab (sn_ref51_Same k) sameL.pre sameL.post := contract_ref51_Same (fun _ => rfl) (fun s hs => by cases hs) k (by
  rintro ts hl ⟨a, b, rfl, hsz⟩
  have fin : ∀ x : Bool, x = decide (a = b) → sameL.post [ints a, ints b] (.bool x) := fun r hr a' b' e => by
    simp only [List.cons.injEq, and_true] at e
    rw [← ints_inj e.1, ← ints_inj e.2, hr]
  generalize sameL.post [ints a, ints b] = R at fin ⊢
  unfold tr_ref51_Same
  simp only [Tree.den, E.den, P1.den, P2.den, P3.den, List.map_cons, List.map_nil, List.cons_append, List.nil_append, List.getD_cons_zero, List.getD_cons_succ, List.getElem?_cons_zero, List.getElem?_cons_succ, asInt_int, asBool_bool, asStr_str, asList_list, cells_agg, TV.cell, pre_zero, pre_succ, post_zero, post_succ, decide_eq_true_eq, decide_eq_false_iff_not, beq_iff_eq, beq_eq_false_iff_ne, Bool.not_eq_true', Bool.not_eq_false', ne_eq, List.length_cons, List.length_nil, forall_eq, Bool.false_eq_true, Bool.true_eq_false, Int.reduceToNat, Option.some.injEq, exists_eq_left']
  simp only [Tree.den, E.den, P1.den, P2.den, P3.den, List.map_cons, List.map_nil, List.cons_append, List.nil_append, List.getD_cons_zero, List.getD_cons_succ, List.getElem?_cons_zero, List.getElem?_cons_succ, asInt_int, asBool_bool, asStr_str, asList_list, cells_agg, TV.cell, pre_zero, pre_succ, post_zero, post_succ, decide_eq_true_eq, decide_eq_false_iff_not, beq_iff_eq, beq_eq_false_iff_ne, Bool.not_eq_true', Bool.not_eq_false', ne_eq, List.length_cons, List.length_nil, forall_eq, Bool.false_eq_true, Bool.true_eq_false, Int.reduceToNat, Option.some.injEq, exists_eq_left', ints_asList, map_snoc, map_app, list_map, ints_nil, ints_get, ints_len, bs_get, Int.toNat_natCast, List.length_append, List.length_map, bs_length]
  refine ⟨fun h => fin _ ?_, fun h => ⟨QI a b, Qm a, ⟨0, rfl, by omega, rfl⟩, ?_⟩⟩
  · exact (decide_eq_false fun e => h (by rw [e])).symm
  · rintro xs _ ⟨k, rfl, hk, he⟩
    simp only [Tree.den, E.den, P1.den, P2.den, P3.den, List.map_cons, List.map_nil, List.cons_append, List.nil_append, List.getD_cons_zero, List.getD_cons_succ, List.getElem?_cons_zero, List.getElem?_cons_succ, asInt_int, asBool_bool, asStr_str, asList_list, cells_agg, TV.cell, pre_zero, pre_succ, post_zero, post_succ, decide_eq_true_eq, decide_eq_false_iff_not, beq_iff_eq, beq_eq_false_iff_ne, Bool.not_eq_true', Bool.not_eq_false', ne_eq, List.length_cons, List.length_nil, forall_eq, Bool.false_eq_true, Bool.true_eq_false, Int.reduceToNat, Option.some.injEq, exists_eq_left', ints_asList, map_snoc, map_app, list_map, ints_nil, ints_get, ints_len, bs_get, Int.toNat_natCast, List.length_append, List.length_map, bs_length]
    have hl : a.length = b.length := by omega
    refine ⟨fun hlt => ⟨by omega, by omega, by omega, by omega, fun hne => fin _ ?_, fun heq => ⟨⟨k + 1, ?_, by omega, ?_⟩, ?_⟩⟩, fun hlt => fin _ ?_⟩
    · exact (decide_eq_false fun e => hne (by rw [e])).symm
    · rw [wrap_i64 (by omega) (by omega)]; rfl
    · rw [take_snoc (l := a) (k := k) (by omega), take_snoc (l := b) (k := k) (by omega), he, heq]
    · rw [wrap_i64 (by omega) (by omega)]
      simp only [Qm, List.getD_cons_zero, asInt_int]; omega
    · rw [List.take_of_length_le (by omega), List.take_of_length_le (by omega)] at he
      exact (decide_eq_true he).symm)


def trueL (pre : List TV → Prop) : Law := ⟨pre, fun _ r => r = .bool true⟩
end Go.Proofs.YtbeelajedknohaaDoor
