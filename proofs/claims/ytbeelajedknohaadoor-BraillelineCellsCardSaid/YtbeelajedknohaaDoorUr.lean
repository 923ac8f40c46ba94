/- The contracts of Finish, of the reference, of Same and of awake. -/
import Derived.Test.YtbeelajedknohaaDoorUq
namespace Go.Proofs.YtbeelajedknohaaDoor
set_option linter.unusedSimpArgs false
set_option linter.unusedVariables false
set_option linter.unusedSectionVars false

theorem unbs_nil {l : List Int} : unbs l = [] ↔ l = [] := by cases l <;> simp [unbs]
theorem decode_pre {p c : List UInt8} (h : p.length + c.length ≤ 1099511627776) : decodeL.pre [.str p, .str c] := ⟨p, c, rfl, h⟩
theorem decode_all {p c : List UInt8} {Q : TV → Prop} : (∀ r, decodeL.post [.str p, .str c] r → Q r) ↔ Q (decT (p ++ c)) :=
  ⟨fun h => h _ fun p' c' e => by simp only [List.cons.injEq, TV.str.injEq, and_true] at e; rw [e.1, e.2], fun h r hr => by rw [hr p c rfl]; exact h⟩

def finishL : Law := ⟨fun ts => ∃ p, ts = [.str p] ∧ p.length ≤ 1099511627775, fun ts r => ∀ p, ts = [.str p] → r = ints (fin (bs p))⟩
theorem finish_pre {p : List UInt8} (h : p.length ≤ 1099511627775) : finishL.pre [.str p] := ⟨p, rfl, h⟩
theorem finish_all {p : List UInt8} {Q : TV → Prop} : (∀ r, finishL.post [.str p] r → Q r) ↔ Q (ints (fin (bs p))) :=
  ⟨fun h => h _ fun p' e => by simp only [List.cons.injEq, TV.str.injEq, and_true] at e; rw [e], fun h r hr => by rw [hr p rfl]; exact h⟩
/-! ### The reference -/
def limT (K : List Int) : TV := .agg [.int (loK K), .int (hiK K), .int (leadK K : Int)]
def limitsL : Law := ⟨fun ts => ∃ K, ts = [ints K] ∧ K ≠ [], fun ts r => ∀ K, ts = [ints K] → r = limT K⟩
theorem limits_pre {K : List Int} (h : K ≠ []) : limitsL.pre [ints K] := ⟨K, rfl, h⟩
theorem limits_all {K : List Int} {Q : TV → Prop} : (∀ r, limitsL.post [ints K] r → Q r) ↔ Q (limT K) :=
  ⟨fun h => h _ fun p' e => by simp only [List.cons.injEq, and_true] at e; rw [ints_inj e], fun h r hr => by rw [hr K rfl]; exact h⟩
set_option maxHeartbeats 1000000 in
theorem limits_c (k : Nat) : Contract Tryd.prog (mkEnv globT []) gtab (sn_ref01_limits k) limitsL.pre limitsL.post := contract_ref01_limits (fun _ => rfl) (fun s hs => by cases hs) k (by
  rintro ts hl ⟨K, rfl, hne⟩
  have fin : ∀ r : TV, r = limT K → limitsL.post [ints K] r := fun r hr p' e => by
    simp only [List.cons.injEq, and_true] at e
    rw [← ints_inj e]
    exact hr
  generalize limitsL.post [ints K] = R at fin ⊢
  unfold tr_ref01_limits
  simp only [Tree.den, E.den, P1.den, P2.den, P3.den, List.map_cons, List.map_nil, List.cons_append, List.nil_append, List.getD_cons_zero, List.getD_cons_succ, List.getElem?_cons_zero, List.getElem?_cons_succ, asInt_int, asBool_bool, asStr_str, asList_list, cells_agg, TV.cell, pre_zero, pre_succ, post_zero, post_succ, decide_eq_true_eq, decide_eq_false_iff_not, beq_iff_eq, beq_eq_false_iff_ne, Bool.not_eq_true', Bool.not_eq_false', ne_eq, List.length_cons, List.length_nil, forall_eq, Bool.false_eq_true, Bool.true_eq_false, Int.reduceToNat, Option.some.injEq, exists_eq_left', ints_asList, map_snoc, map_app, list_map, ints_nil, ints_get, ints_len, bs_get, Int.toNat_natCast, List.length_append, List.length_map, bs_length]
  match K, hne with
  | [a], _ =>
    have e : limT [a] = .agg [.int (lo1 a), .int (hi1 a), .int (lead a : Int)] := rfl
    rw [e] at fin
    simp only [List.getD_cons_zero, List.length_cons, List.length_nil]
    repeat' (first | apply And.intro | intro _)
    all_goals first
      | (exfalso; omega)
      | omega
      | (refine fin _ ?_
         clear fin
         unfold lo1 hi1 lead
         (repeat' split) <;> first | (exfalso; omega) | rfl)
  | a :: b :: r, _ =>
    have e : limT (a :: b :: r) = .agg [.int 128, .int 191, .int (lead a : Int)] := rfl
    rw [e] at fin
    simp only [List.getD_cons_zero, List.length_cons]
    repeat' (first | apply And.intro | intro _)
    all_goals first
      | (exfalso; omega)
      | omega
      | (refine fin _ ?_
         clear fin
         unfold lead
         (repeat' split) <;> first | (exfalso; omega) | rfl))
end Go.Proofs.YtbeelajedknohaaDoor
