/- Written by this repo's own program out of its texts. -/
import Derived.Test.YtlhagkbhojmjpaaGreatDoorRNam
import Derived.Test.YtlhagkbhojmjpaaGreatDoorRDix
namespace Go.Proofs.YtlhagkbhojmjpaaGreatDoor
set_option linter.unusedSimpArgs false
set_option linter.unusedVariables false
set_option linter.unusedSectionVars false
open Go.RowKit
theorem ResRep.strL {B : Nat} {w : World} {G : Nat → Prop} {n : List UInt8} {v : Value} (h : ResRep B w G [(false, [(.str, none)])] (.str n) v) : v = .string ⟨n.toArray⟩ := by
  obtain ⟨vs, hv, hl, hs, _, hc, _⟩ := h
  match vs, hl with
  | [v'], _ =>
    have h2 : RepT (fresh w G B) .str (.str n) v' := hc 0 _ _ rfl rfl
    cases h2
    exact hv
theorem ResRep.intL {B : Nat} {w : World} {G : Nat → Prop} {k : IntKind} {n : Int} {v : Value} (h : ResRep B w G [(false, [(.int k, none)])] (.int n) v) : v = .int k n := by
  obtain ⟨vs, hv, hl, hs, _, hc, _⟩ := h
  match vs, hl with
  | [v'], _ =>
    have h2 : RepT (fresh w G B) (.int k) (.int n) v' := hc 0 _ _ rfl rfl
    cases h2
    exact hv
def flatC : CT → TV → Value
  | .int k, t => .int k t.asInt
  | .bool, t => .bool t.asBool
  | .str, t => .string ⟨t.asStr.toArray⟩
  | .slice .., _ => undef
theorem cells_flat {M : Mem} {cs : List CT} {t : TV} {xs : List Value} (hf : ∀ c ∈ cs, c.flat = true) (h : CellsT M true cs t xs) : xs = (List.range cs.length).map fun i => flatC (cs.getD i .bool) (zbk true t i) := by
  apply List.ext_getElem
  · simpa using h.1
  · intro i h1 h2
    have hi : i < cs.length := by rw [← h.1]; exact h1
    obtain ⟨v, e, hv⟩ := h.2 i hi
    rw [List.getElem?_eq_getElem h1] at e
    cases e
    have hfl := hf _ (List.getElem_mem hi)
    rw [List.getElem_map, List.getElem_range, List.getD_eq_getElem?_getD, List.getElem?_eq_getElem hi]
    show xs[i] = flatC cs[i] _
    generalize cs[i] = ct at hv hfl
    generalize xs[i] = v at hv
    cases hv with
    | int => rfl
    | bool => rfl
    | str => rfl
    | empty => simp [CT.flat] at hfl
    | slice => simp [CT.flat] at hfl
theorem qma {w : World} {cs : List CT} {t : TV} {v : Value} (hf : ∀ c ∈ cs, c.flat = true) (h : zwk w (true, cs) t v) : v = .agg ((List.range cs.length).map fun i => flatC (cs.getD i .bool) (zbk true t i)).toArray := by
  have h' : ∃ vs : Array Value, v = .agg vs ∧ CellsT (full w) true cs t vs.toList := h
  obtain ⟨vs, rfl, hc⟩ := h'
  have := cells_flat hf hc
  rw [← this]
def digS (n : Int) : List UInt8 := if n < 10 then [UInt8.ofNat (48 + n.toNat)] else [UInt8.ofNat (48 + n.toNat / 10), UInt8.ofNat (48 + n.toNat % 10)]
def smallS : List UInt8 := [48, 49, 50, 51, 52, 53, 54, 55, 56, 57, 97, 98, 99, 100, 101, 102, 103, 104, 105, 106, 107, 108, 109, 110, 111, 112, 113, 114, 115, 116, 117, 118, 119, 120, 121, 122]
theorem dig_one (k : Fin 10) : List.take (k.val + 1 - k.val) (List.drop k.val smallS) = digS k.val := by revert k; decide +kernel
def pairS : List UInt8 := (List.range 100).flatMap fun n => [UInt8.ofNat (48 + n / 10), UInt8.ofNat (48 + n % 10)]
theorem dig_two (k : Fin 100) (h : 10 ≤ k.val) : List.take (k.val * 2 + 2 - k.val * 2) (List.drop (k.val * 2) pairS) = digS k.val := by revert k; decide +kernel
theorem pairS_eq : pairS = [48, 48, 48, 49, 48, 50, 48, 51, 48, 52, 48, 53, 48, 54, 48, 55, 48, 56, 48, 57, 49, 48, 49, 49, 49, 50, 49, 51, 49, 52, 49, 53, 49, 54, 49, 55, 49, 56, 49, 57, 50, 48, 50, 49, 50, 50, 50, 51, 50, 52, 50, 53, 50, 54, 50, 55, 50, 56, 50, 57, 51, 48, 51, 49, 51, 50, 51, 51, 51, 52, 51, 53, 51, 54, 51, 55, 51, 56, 51, 57, 52, 48, 52, 49, 52, 50, 52, 51, 52, 52, 52, 53, 52, 54, 52, 55, 52, 56, 52, 57, 53, 48, 53, 49, 53, 50, 53, 51, 53, 52, 53, 53, 53, 54, 53, 55, 53, 56, 53, 57, 54, 48, 54, 49, 54, 50, 54, 51, 54, 52, 54, 53, 54, 54, 54, 55, 54, 56, 54, 57, 55, 48, 55, 49, 55, 50, 55, 51, 55, 52, 55, 53, 55, 54, 55, 55, 55, 56, 55, 57, 56, 48, 56, 49, 56, 50, 56, 51, 56, 52, 56, 53, 56, 54, 56, 55, 56, 56, 56, 57, 57, 48, 57, 49, 57, 50, 57, 51, 57, 52, 57, 53, 57, 54, 57, 55, 57, 56, 57, 57] := by decide +kernel
def psmlL : Law := ⟨fun ts => ∃ (n : Int), ts = [.int n] ∧ (0 ≤ n ∧ n < 100), fun ts z₀ => ∀ (n : Int), ts = [.int n] → z₀ = .str (digS n)⟩
theorem psml_pre {n : Int} (h : 0 ≤ n ∧ n < 100) : psmlL.pre [.int n] := ⟨n, rfl, h⟩
theorem psml_fin {n : Int} {z₀ : TV} (h : z₀ = .str (digS n)) : psmlL.post [.int n] z₀ := fun n₁ e => by
  simp only [List.cons.injEq, TV.str.injEq, TV.int.injEq, TV.bool.injEq, TV.agg.injEq, TV.list.injEq, zat, and_true, true_and, and_assoc] at e; subst e
  exact h
theorem psml_c (k : Nat) : Contract Tryz.prog (mkEnv globT []) gtabU (qir k) psmlL.pre psmlL.post := Contract.env (Γ := mkEnv globT []) (qjb (fun _ => rfl) (fun s hs => by
    cases hs) k (by
  rintro ts hl ⟨n, rfl, hp⟩
  have hfin : ∀ z₀ : TV, z₀ = .str (digS n) → psmlL.post [.int n] z₀ := fun z₀ hz₀ => psml_fin hz₀
  generalize psmlL.post [.int n] = R at hfin ⊢
  unfold tr_internal_strconv_small
  obtain ⟨k, rfl⟩ : ∃ k : Nat, n = k := ⟨n.toNat, by omega⟩
  have e1 : IntKind.wrap .i64 ((k : Int) + 1) = ((k + 1 : Nat) : Int) := by rw [wrap_i64 (by omega) (by omega)]; omega
  have e2 : IntKind.wrap .i64 ((k : Int) * 2) = ((k * 2 : Nat) : Int) := by rw [wrap_i64 (by omega) (by omega)]; omega
  have e3 : IntKind.wrap .i64 (((k * 2 : Nat) : Int) + 2) = ((k * 2 + 2 : Nat) : Int) := by rw [wrap_i64 (by omega) (by omega)]; omega
  simp only [Tree.den, E.den, P1.den, P2.den, P3.den, qa, qb, qc, qd, qe, qf, qg, qh, zac, zab, zad, zaa, zae, TV.cell, zah, zai, zag, zaf, qi, qj, qk, ql, qm, qn, ne_eq, qo, qp, forall_eq, qs, qt, Int.reduceToNat, qu, exists_eq_left', e1, e2, e3, Int.toNat_natCast]
  refine ⟨fun h => ⟨by omega, by omega, by omega, by omega, hfin _ ?_⟩, fun h => ⟨by omega, by omega, by omega, by omega, hfin _ ?_⟩⟩
  · exact congrArg TV.str (dig_one ⟨k, by omega⟩)
  · rw [← pairS_eq]
    exact congrArg TV.str (dig_two ⟨k, by omega⟩ (by show 10 ≤ k; omega)))) rfl
def pfmtL : Law := ⟨fun ts => ∃ (n : Int) (b : Int), ts = [.int n, .int b] ∧ (0 ≤ n ∧ n < 100 ∧ b = 10), fun ts z₀ => ∀ (n : Int) (b : Int), ts = [.int n, .int b] → z₀ = .str (digS n)⟩
theorem pfmt_pre {n : Int} {b : Int} (h : 0 ≤ n ∧ n < 100 ∧ b = 10) : pfmtL.pre [.int n, .int b] := ⟨n, b, rfl, h⟩
theorem pfmt_fin {n : Int} {b : Int} {z₀ : TV} (h : z₀ = .str (digS n)) : pfmtL.post [.int n, .int b] z₀ := fun n₁ b₁ e => by
  simp only [List.cons.injEq, TV.str.injEq, TV.int.injEq, TV.bool.injEq, TV.agg.injEq, TV.list.injEq, zat, and_true, true_and, and_assoc] at e; obtain ⟨rfl, rfl⟩ := e
  exact h
theorem pfmt_all {n : Int} {b : Int} {Q : TV → Prop} : (∀ z₀, pfmtL.post [.int n, .int b] z₀ → Q z₀) ↔ Q (.str (digS n)) := ⟨fun h => h _ (pfmt_fin rfl), fun h z₀ hr => by rw [hr _ _ rfl]; exact h⟩
set_option maxHeartbeats 2000000 in
theorem pfmt_c (k : Nat) : Contract Tryz.prog (mkEnv globT []) gtabU (qil k) pfmtL.pre pfmtL.post := by
  refine Contract.leaf ⟨Tryz.f134, Tryz.f134.body.getD .skip, Tryz.func134, by kernel_rfl, by kernel_rfl⟩ ?_
  rintro w ts vs hg ha ⟨n, b, rfl, h0, h1, rfl⟩
  obtain ⟨v1, vs1, e1, hn, ha⟩ := zcl ha
  obtain ⟨v2, vs2, rfl, hb, ha⟩ := zcl ha
  obtain ⟨_, rfl⟩ := zgh ha
  obtain rfl : vs = #[v1, v2] := by
    rcases vs with ⟨l⟩
    exact congrArg List.toArray e1
  obtain rfl := argRep_int hn
  obtain rfl := argRep_int hb
  refine ⟨.str (digS n), .string ⟨(digS n).toArray⟩, fun M => RepT.str (.str (digS n)), pfmt_fin rfl, ?_⟩
  have key : Calls Tryz.prog 164 #[.int .i64 n] w fun e w' => e = .returned (.string ⟨(digS n).toArray⟩) ∧ Below w.heap.size w w' := by
    refine ((psml_c 0).calls w [.int n] #[.int .i64 n] hg ⟨rfl, rfl, fun i a b c h1 h2 h3 => ?_⟩ (psml_pre ⟨h0, h1⟩)).mono ?_
    · match i, h1, h2, h3 with
      | 0, h1, h2, h3 =>
        obtain rfl : (false, [CT.int .i64]) = a := Option.some.inj h1
        simp at h2 h3
        subst h2 h3
        exact ⟨_, rfl, RepT.int .i64 (.int n)⟩
    · rintro e w' ⟨r, v, G', rfl, hp, hB, _, hr⟩
      obtain rfl := hp _ rfl
      obtain rfl := hr.strL
      exact ⟨rfl, hB⟩
  refine (callsIn_wide (n := 3)).1 ?_
  refine callsIn_of_wp Tryz.func134 rfl trivial ?_ rfl
  simp only [Tryz.ntmps134, List.size_toArray, List.length_cons, List.length_nil, Nat.reduceAdd, Nat.reduceSub, Array.replicate_succ, Array.replicate_zero, List.push_toArray, List.append_toArray, List.nil_append, List.cons_append]
  gi_wp2_with (refine ⟨trivial, ?_⟩; gi_at_call 164; refine (callsIn_wide.2 key).mono ?_; rintro e w' ⟨rfl, hB⟩)
  go_ret
  exact ⟨rfl, hB⟩
def pitaL : Law := ⟨fun ts => ∃ (n : Int), ts = [.int n] ∧ (0 ≤ n ∧ n < 100), fun ts z₀ => ∀ (n : Int), ts = [.int n] → z₀ = .str (digS n)⟩
theorem pita_pre {n : Int} (h : 0 ≤ n ∧ n < 100) : pitaL.pre [.int n] := ⟨n, rfl, h⟩
theorem pita_fin {n : Int} {z₀ : TV} (h : z₀ = .str (digS n)) : pitaL.post [.int n] z₀ := fun n₁ e => by
  simp only [List.cons.injEq, TV.str.injEq, TV.int.injEq, TV.bool.injEq, TV.agg.injEq, TV.list.injEq, zat, and_true, true_and, and_assoc] at e; subst e
  exact h
theorem pita_all {n : Int} {Q : TV → Prop} : (∀ z₀, pitaL.post [.int n] z₀ → Q z₀) ↔ Q (.str (digS n)) := ⟨fun h => h _ (pita_fin rfl), fun h z₀ hr => by rw [hr _ rfl]; exact h⟩
theorem pita_c (k : Nat) : Contract Tryz.prog (mkEnv globT []) gtabU (qjr k) pitaL.pre pitaL.post := Contract.env (Γ := mkEnv globT [pfmtL]) (qkq (fun _ => rfl) (fun s hs => by
    simp only [cx_strconv_Itoa, List.mem_cons, List.not_mem_nil, or_false] at hs
    rcases hs with rfl
    · exact Contract.inEnv rfl (pfmt_c 0) rfl) k (by
  rintro ts hl ⟨n, rfl, hp⟩
  have hfin : ∀ z₀ : TV, z₀ = .str (digS n) → pitaL.post [.int n] z₀ := fun z₀ hz₀ => pita_fin hz₀
  generalize pitaL.post [.int n] = R at hfin ⊢
  unfold tr_strconv_Itoa
  simp only [Tree.den, E.den, P1.den, P2.den, P3.den, qa, qb, qc, qd, qe, qf, qg, qh, zac, zab, zad, zaa, zae, TV.cell, zah, zai, zag, zaf, qi, qj, qk, ql, qm, qn, ne_eq, qo, qp, forall_eq, qs, qt, Int.reduceToNat, qu, exists_eq_left', pfmt_all]
  exact ⟨pfmt_pre ⟨hp.1, hp.2, rfl⟩, hfin _ rfl⟩)) rfl
def namesL : List (List UInt8) := [[85, 112], [68, 111, 119, 110], [82, 105, 103, 104, 116], [76, 101, 102, 116], [72, 111, 109, 101], [69, 110, 100], [73, 110, 115, 101, 114, 116], [68, 101, 108, 101, 116, 101], [80, 97, 103, 101, 85, 112], [80, 97, 103, 101, 68, 111, 119, 110], [84, 97, 98], [69, 110, 116, 101, 114], [69, 115, 99, 97, 112, 101], [66, 97, 99, 107, 115, 112, 97, 99, 101]] ++ (List.range 12).map fun i => 70 :: digS (i + 1 : Nat)
def NmI (xs : List TV) : Prop := ∃ i : Nat, xs = [.int i, strs (namesL.take (14 + i))] ∧ i ≤ 12
def Nmm (xs : List TV) : Nat := 12 - (xs.getD 0 (.int 0)).asInt.toNat
theorem nmm_i (i : Nat) (z : TV) : Nmm [.int (i : Int), z] = 12 - i := congrArg (12 - ·) (Int.toNat_natCast i)
theorem names_step : ∀ i : Fin 12, namesL.take (14 + (i.val + 1)) = namesL.take (14 + i.val) ++ [70 :: digS (i.val + 1 : Nat)] := by decide +kernel
def pnmsL : Law := ⟨fun ts => ts = [], fun ts z₀ => ts = [] → z₀ = strs namesL⟩
theorem pnms_pre : pnmsL.pre [] := rfl
theorem pnms_fin {z₀ : TV} (h : z₀ = strs namesL) : pnmsL.post [] z₀ := fun _ => h
theorem pnms_all {Q : TV → Prop} : (∀ z₀, pnmsL.post [] z₀ → Q z₀) ↔ Q (strs namesL) := ⟨fun h => h _ fun _ => rfl, fun h z₀ hr => by rw [hr rfl]; exact h⟩
theorem pnms_c (k : Nat) : Contract Tryz.prog (mkEnv globT []) gtabU (qip k) pnmsL.pre pnmsL.post := Contract.env (Γ := mkEnv globT [pitaL]) (qkd (fun _ => rfl) (fun s hs => by
    simp only [cx_keyinput_Names, List.mem_cons, List.not_mem_nil, or_false] at hs
    rcases hs with rfl
    · exact Contract.inEnv rfl (pita_c 0) rfl) k (by
  rintro ts hl rfl
  have hfin : ∀ z₀ : TV, z₀ = strs namesL → pnmsL.post [] z₀ := fun z₀ hz₀ => pnms_fin hz₀
  generalize pnmsL.post [] = R at hfin ⊢
  unfold tr_keyinput_Names
  simp only [Tree.den, E.den, P1.den, P2.den, P3.den, qa, qb, qc, qd, qe, qf, qg, qh, zac, zab, zad, zaa, zae, TV.cell, zah, zai, zag, zaf, qi, qj, qk, ql, qm, qn, ne_eq, qo, qp, forall_eq, qs, qt, Int.reduceToNat, qu, exists_eq_left']
  refine ⟨NmI, Nmm, ⟨0, by rfl, by omega⟩, ?_⟩
  rintro xs _ ⟨i, rfl, hi⟩
  by_cases h : i < 12
  · have e1 : IntKind.wrap .i64 ((i : Int) + 1) = ((i + 1 : Nat) : Int) := by rw [wrap_i64 (by omega) (by omega)]; omega
    have hl : (namesL.take (14 + i)).length ≤ 26 := by rw [List.length_take]; exact Nat.le_trans (Nat.min_le_right _ _) (by decide)
    have hd : (digS ((i + 1 : Nat) : Int)).length ≤ 2 := by unfold digS; split <;> simp
    have hs := names_step ⟨i, h⟩
    simp only [Tree.den, E.den, P1.den, P2.den, P3.den, qa, qb, qc, qd, qe, qf, qg, qh, zac, zab, zad, zaa, zae, TV.cell, zah, zai, zag, zaf, qi, qj, qk, ql, qm, qn, ne_eq, qo, qp, forall_eq, qs, qt, Int.reduceToNat, qu, exists_eq_left', List.cons_append, List.nil_append, e1, pita_all, zbc, zu2, nmm_i, List.length_append, List.length_map, List.length_cons, List.length_nil]
    refine ⟨fun _ => ⟨pita_pre ⟨by omega, by omega⟩, by omega, by omega, ⟨i + 1, by rw [hs], by omega⟩, by omega⟩, fun hh => absurd hh (by omega)⟩
  · obtain rfl : i = 12 := by omega
    simp only [Tree.den, E.den, P1.den, P2.den, P3.den, qa, qb, qc, qd, qe, qf, qg, qh, zac, zab, zad, zaa, zae, TV.cell, zah, zai, zag, zaf, qi, qj, qk, ql, qm, qn, ne_eq, qo, qp, forall_eq, qs, qt, Int.reduceToNat, qu, exists_eq_left', List.cons_append, List.nil_append]
    exact ⟨fun hh => absurd hh (by omega), fun _ => hfin _ (by rfl)⟩)) rfl
def CnI (l : List (List UInt8)) (v : List UInt8) (xs : List TV) : Prop := ∃ i : Nat, xs = [.int i] ∧ i ≤ l.length ∧ ∀ j, j < i → ¬ v = l.getD j []
def Cnm (l : List (List UInt8)) (xs : List TV) : Nat := l.length - (xs.getD 0 (.int 0)).asInt.toNat
theorem cnm_i (l : List (List UInt8)) (i : Nat) : Cnm l [.int (i : Int)] = l.length - i := congrArg (l.length - ·) (Int.toNat_natCast i)
def pconL : Law := ⟨fun ts => ∃ (l : List (List UInt8)) (v : List UInt8), ts = [strs l, .str v] ∧ (l.length ≤ 1000 ∧ v ∈ l), fun ts z₀ => ∀ (l : List (List UInt8)) (v : List UInt8), ts = [strs l, .str v] → z₀ = .bool true⟩
theorem pcon_pre {l : List (List UInt8)} {v : List UInt8} (h : l.length ≤ 1000 ∧ v ∈ l) : pconL.pre [strs l, .str v] := ⟨l, v, rfl, h⟩
theorem pcon_fin {l : List (List UInt8)} {v : List UInt8} {z₀ : TV} (h : z₀ = .bool true) : pconL.post [strs l, .str v] z₀ := fun l₁ v₁ e => by
  simp only [List.cons.injEq, TV.str.injEq, TV.int.injEq, TV.bool.injEq, TV.agg.injEq, TV.list.injEq, zat, and_true, true_and, and_assoc, qhv] at e; obtain ⟨rfl, rfl⟩ := e
  exact h
theorem pcon_all {l : List (List UInt8)} {v : List UInt8} {Q : TV → Prop} : (∀ z₀, pconL.post [strs l, .str v] z₀ → Q z₀) ↔ Q (.bool true) := ⟨fun h => h _ (pcon_fin rfl), fun h z₀ hr => by rw [hr _ _ rfl]; exact h⟩
theorem pcon_c (k : Nat) : Contract Tryz.prog (mkEnv globT []) gtabU (qic k) pconL.pre pconL.post := Contract.env (Γ := mkEnv globT []) (qiu (fun _ => rfl) (fun s hs => by
    cases hs) k (by
  rintro ts hl ⟨l, v, rfl, hp⟩
  have hfin : ∀ z₀ : TV, z₀ = .bool true → pconL.post [strs l, .str v] z₀ := fun z₀ hz₀ => pcon_fin hz₀
  generalize pconL.post [strs l, .str v] = R at hfin ⊢
  unfold tr_slices_Containsstringstring
  obtain ⟨hl, hv⟩ := hp
  simp only [Tree.den, E.den, P1.den, P2.den, P3.den, qa, qb, qc, qd, qe, qf, qg, qh, zac, zab, zad, zaa, zae, TV.cell, zah, zai, zag, zaf, qi, qj, qk, ql, qm, qn, ne_eq, qo, qp, forall_eq, qs, qt, Int.reduceToNat, qu, exists_eq_left', zgq]
  refine ⟨CnI l v, Cnm l, ⟨0, rfl, by omega, fun j hj => by omega⟩, ?_⟩
  rintro xs _ ⟨i, rfl, hi, hno⟩
  by_cases h : i < l.length
  · have e1 : IntKind.wrap .i64 ((i : Int) + 1) = ((i + 1 : Nat) : Int) := by rw [wrap_i64 (by omega) (by omega)]; omega
    have e0 : decide (0 ≤ (i : Int)) = true := decide_eq_true (by omega)
    simp only [Tree.den, E.den, P1.den, P2.den, P3.den, qa, qb, qc, qd, qe, qf, qg, qh, zac, zab, zad, zaa, zae, TV.cell, zah, zai, zag, zaf, qi, qj, qk, ql, qm, qn, ne_eq, qo, qp, forall_eq, qs, qt, Int.reduceToNat, qu, exists_eq_left', List.cons_append, List.nil_append, e1, e0, zbc, Int.toNat_natCast, zvn l h, cnm_i]
    refine ⟨fun _ => ⟨by omega, by omega, fun _ => hfin _ rfl, fun hne => ⟨⟨i + 1, rfl, by omega, fun j hj => ?_⟩, by omega⟩⟩, fun hh => absurd hh (by omega)⟩
    rcases Nat.lt_or_ge j i with hji | hji
    · exact hno j hji
    · obtain rfl : j = i := by omega
      exact hne
  · exfalso
    obtain ⟨j, hj, hv⟩ := List.mem_iff_getElem.1 hv
    exact hno j (by omega) (by rw [List.getD_eq_getElem?_getD, List.getElem?_eq_getElem hj]; exact hv.symm))) rfl
def modI (c a s : Bool) : Int := 1 + (if s = true then 1 else 0) + (if a = true then 2 else 0) + (if c = true then 4 else 0)
theorem modI_bd (c a s : Bool) : 1 ≤ modI c a s ∧ modI c a s ≤ 8 := by cases c <;> cases a <;> cases s <;> decide
def pmdfL : Law := ⟨fun ts => ∃ (n : List UInt8) (r : Int) (c : Bool) (a : Bool) (s : Bool), ts = [.agg [.str n, .int r, .bool c, .bool a, .bool s]] ∧ (True), fun ts z₀ => ∀ (n : List UInt8) (r : Int) (c : Bool) (a : Bool) (s : Bool), ts = [.agg [.str n, .int r, .bool c, .bool a, .bool s]] → z₀ = .int (modI c a s)⟩
theorem pmdf_pre {n : List UInt8} {r : Int} {c : Bool} {a : Bool} {s : Bool} (h : True) : pmdfL.pre [.agg [.str n, .int r, .bool c, .bool a, .bool s]] := ⟨n, r, c, a, s, rfl, h⟩
theorem pmdf_fin {n : List UInt8} {r : Int} {c : Bool} {a : Bool} {s : Bool} {z₀ : TV} (h : z₀ = .int (modI c a s)) : pmdfL.post [.agg [.str n, .int r, .bool c, .bool a, .bool s]] z₀ := fun n₁ r₁ c₁ a₁ s₁ e => by
  simp only [List.cons.injEq, TV.str.injEq, TV.int.injEq, TV.bool.injEq, TV.agg.injEq, TV.list.injEq, zat, and_true, true_and, and_assoc] at e; obtain ⟨rfl, rfl, rfl, rfl, rfl⟩ := e
  exact h
theorem pmdf_c (k : Nat) : Contract Tryz.prog (mkEnv globT []) gtabU (qjk k) pmdfL.pre pmdfL.post := Contract.env (Γ := mkEnv globT []) (qju (fun _ => rfl) (fun s hs => by
    cases hs) k (by
  rintro ts hl ⟨n, r, c, a, s, rfl, hp⟩
  have hfin : ∀ z₀ : TV, z₀ = .int (modI c a s) → pmdfL.post [.agg [.str n, .int r, .bool c, .bool a, .bool s]] z₀ := fun z₀ hz₀ => pmdf_fin hz₀
  generalize pmdfL.post [.agg [.str n, .int r, .bool c, .bool a, .bool s]] = R at hfin ⊢
  unfold tr_keyinput_modifier
  simp only [Tree.den, E.den, P1.den, P2.den, P3.den, qa, qb, qc, qd, qe, qf, qg, qh, zac, zab, zad, zaa, zae, TV.cell, zah, zai, zag, zaf, qi, qj, qk, ql, qm, qn, ne_eq, qo, qp, forall_eq, qs, qt, Int.reduceToNat, qu, exists_eq_left']
  cases c <;> cases a <;> cases s <;> simp only [true_implies, false_implies, and_true, true_and, Bool.true_eq_false, Bool.false_eq_true] <;> exact hfin _ rfl)) rfl
def qle (n : List UInt8) (c a s : Bool) : List UInt8 := match namedTab.find? (fun e => e.1 == n) with
  | some e => if modI c a s = 1 then e.2.1 else e.2.2.1 ++ UInt8.ofNat (48 + (modI c a s).toNat) :: e.2.2.2
  | none => []
theorem named_find {n : List UInt8} (h : n ∈ namedTab.map (·.1)) : ∃ e, e ∈ namedTab ∧ e.1 = n ∧ namedTab.find? (fun e => e.1 == n) = some e := by
  cases hf : namedTab.find? (fun e => e.1 == n) with
  | none =>
    exfalso
    obtain ⟨e, he, rfl⟩ := List.mem_map.1 h
    have := List.find?_eq_none.1 hf e he
    simp at this
  | some e =>
    have := List.find?_some hf
    exact ⟨e, List.mem_of_find?_eq_some hf, by simpa using this, rfl⟩
def pnamL : Law := ⟨fun ts => ∃ (n : List UInt8) (c : Bool) (a : Bool) (s : Bool), ts = [.agg [.str n, .int 0, .bool c, .bool a, .bool s], .agg [.bool false, .bool false, .bool false, .bool false, .bool false, .bool false, .bool false, .bool false, .int 0, .int 0, .int 0]] ∧ (n ∈ namedTab.map (·.1)), fun ts z₀ => ∀ (n : List UInt8) (c : Bool) (a : Bool) (s : Bool), ts = [.agg [.str n, .int 0, .bool c, .bool a, .bool s], .agg [.bool false, .bool false, .bool false, .bool false, .bool false, .bool false, .bool false, .bool false, .int 0, .int 0, .int 0]] → z₀ = .str (qle n c a s)⟩
theorem pnam_pre {n : List UInt8} {c : Bool} {a : Bool} {s : Bool} (h : n ∈ namedTab.map (·.1)) : pnamL.pre [.agg [.str n, .int 0, .bool c, .bool a, .bool s], .agg [.bool false, .bool false, .bool false, .bool false, .bool false, .bool false, .bool false, .bool false, .int 0, .int 0, .int 0]] := ⟨n, c, a, s, rfl, h⟩
theorem pnam_fin {n : List UInt8} {c : Bool} {a : Bool} {s : Bool} {z₀ : TV} (h : z₀ = .str (qle n c a s)) : pnamL.post [.agg [.str n, .int 0, .bool c, .bool a, .bool s], .agg [.bool false, .bool false, .bool false, .bool false, .bool false, .bool false, .bool false, .bool false, .int 0, .int 0, .int 0]] z₀ := fun n₁ c₁ a₁ s₁ e => by
  simp only [List.cons.injEq, TV.str.injEq, TV.int.injEq, TV.bool.injEq, TV.agg.injEq, TV.list.injEq, zat, and_true, true_and, and_assoc] at e; obtain ⟨rfl, rfl, rfl, rfl⟩ := e
  exact h
theorem pnam_all {n : List UInt8} {c : Bool} {a : Bool} {s : Bool} {Q : TV → Prop} : (∀ z₀, pnamL.post [.agg [.str n, .int 0, .bool c, .bool a, .bool s], .agg [.bool false, .bool false, .bool false, .bool false, .bool false, .bool false, .bool false, .bool false, .int 0, .int 0, .int 0]] z₀ → Q z₀) ↔ Q (.str (qle n c a s)) := ⟨fun h => h _ (pnam_fin rfl), fun h z₀ hr => by rw [hr _ _ _ _ rfl]; exact h⟩
theorem pnam_c (k : Nat) : Contract Tryz.prog (mkEnv globT []) gtabU (qj5 k) pnamL.pre pnamL.post := by
  refine Contract.leaf ⟨Tryz.f40, Tryz.f40.body.getD .skip, Tryz.func40, by kernel_rfl, by kernel_rfl⟩ ?_
  rintro w ts vs hg ha ⟨n, c, a, s, rfl, hn⟩
  obtain ⟨v1, vs1, e1, h1, ha⟩ := zcl ha
  obtain ⟨v2, vs2, rfl, h2, ha⟩ := zcl ha
  obtain ⟨_, rfl⟩ := zgh ha
  obtain rfl : vs = #[v1, v2] := by
    rcases vs with ⟨l⟩
    exact congrArg List.toArray e1
  obtain rfl := qma (by decide) h1
  obtain rfl := qma (by decide) h2
  refine ⟨.str (qle n c a s), .string ⟨(qle n c a s).toArray⟩, fun M => RepT.str (.str (qle n c a s)), pnam_fin rfl, ?_⟩
  obtain ⟨e, he, rfl, hf⟩ := named_find hn
  have hb := modI_bd c a s
  have ek : qle e.1 c a s = if modI c a s = 1 then e.2.1 else e.2.2.1 ++ UInt8.ofNat (48 + (modI c a s).toNat) :: e.2.2.2 := by unfold qle; rw [hf]
  rw [ek]
  refine named_at w c a s (modI c a s) (UInt8.ofNat (48 + (modI c a s).toNat)) e he (fun W' hB => ?_) (fun W' hB => ?_)
  · have hle : Mem.le (full w) (full W') := fun g o hg => (hB.block g (Array.getElem?_eq_some_iff.1 hg).1).trans hg
    refine ((pmdf_c 0).calls W' [.agg [.str e.1, .int 0, .bool c, .bool a, .bool s]] _ (fun g ag cs hm => ⟨(hg g ag cs hm).1.mono hle, (hg g ag cs hm).2⟩) ⟨rfl, rfl, fun i x y z g1 g2 g3 => ?_⟩ (pmdf_pre trivial)).mono ?_
    · match i, g1, g2, g3 with
      | 0, g1, g2, g3 =>
        obtain rfl : (true, [CT.str, CT.int .i32, CT.bool, CT.bool, CT.bool]) = x := Option.some.inj g1
        obtain rfl := Option.some.inj g2
        obtain rfl := Option.some.inj g3
        obtain ⟨us, hu, hc⟩ := (show ∃ vs : Array Value, _ = Value.agg vs ∧ CellsT (full w) true _ _ vs.toList from h1)
        exact show ∃ vs : Array Value, _ = Value.agg vs ∧ CellsT (full W') true _ _ vs.toList from ⟨us, hu, CellsT.mono hle hc⟩
    · rintro x w' ⟨r, v, G', rfl, hp, hB2, _, hr⟩
      obtain rfl := hp _ _ _ _ _ rfl
      obtain rfl := hr.intL
      exact ⟨rfl, hB2⟩
  · have hle : Mem.le (full w) (full W') := fun g o hg => (hB.block g (Array.getElem?_eq_some_iff.1 hg).1).trans hg
    refine ((pita_c 0).calls W' [.int (modI c a s)] #[.int .i64 (modI c a s)] (fun g ag cs hm => ⟨(hg g ag cs hm).1.mono hle, (hg g ag cs hm).2⟩) ⟨rfl, rfl, fun i x y z g1 g2 g3 => ?_⟩ (pita_pre ⟨by omega, by omega⟩)).mono ?_
    · match i, g1, g2, g3 with
      | 0, g1, g2, g3 =>
        obtain rfl : (false, [CT.int .i64]) = x := Option.some.inj g1
        obtain rfl := Option.some.inj g2
        obtain rfl := Option.some.inj g3
        exact ⟨_, rfl, RepT.int .i64 (.int (modI c a s))⟩
    · rintro x w' ⟨r, v, G', rfl, hp, hB2, _, hr⟩
      obtain rfl := hp _ rfl
      obtain rfl := hr.strL
      have : digS (modI c a s) = [UInt8.ofNat (48 + (modI c a s).toNat)] := by unfold digS; rw [if_pos (by omega)]
      rw [this]
      exact ⟨rfl, hB2⟩
end Go.Proofs.YtlhagkbhojmjpaaGreatDoor

