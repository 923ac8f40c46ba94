/- Written by this repo's own program out of its texts. -/
import Derived.Test.YtlhagkbhojmjpaaGreatDoorRDiw
namespace Go.Proofs.YtlhagkbhojmjpaaGreatDoor
set_option linter.unusedSimpArgs false
set_option linter.unusedVariables false
set_option linter.unusedSectionVars false
def plimL : Law := ⟨fun ts => ∃ (n : Int) (a : Int) (b : Int), ts = [.int n, .int a, .int b] ∧ (True), fun ts z₀ => ∀ (n : Int) (a : Int) (b : Int), ts = [.int n, .int a, .int b] → z₀ = .int (max a (min n b))⟩
theorem plim_pre {n : Int} {a : Int} {b : Int} (h : True) : plimL.pre [.int n, .int a, .int b] := ⟨n, a, b, rfl, h⟩
theorem plim_fin {n : Int} {a : Int} {b : Int} {z₀ : TV} (h : z₀ = .int (max a (min n b))) : plimL.post [.int n, .int a, .int b] z₀ := fun n₁ a₁ b₁ e => by
  simp only [List.cons.injEq, TV.str.injEq, TV.int.injEq, TV.bool.injEq, TV.agg.injEq, TV.list.injEq, zat, and_true, true_and, and_assoc] at e; obtain ⟨rfl, rfl, rfl⟩ := e
  exact h
theorem plim_all {n : Int} {a : Int} {b : Int} {Q : TV → Prop} : (∀ z₀, plimL.post [.int n, .int a, .int b] z₀ → Q z₀) ↔ Q (.int (max a (min n b))) := ⟨fun h => h _ (plim_fin rfl), fun h z₀ hr => by rw [hr _ _ _ rfl]; exact h⟩
theorem plim_c (k : Nat) : Contract Tryz.prog (mkEnv globT []) gtabU (qcb k) plimL.pre plimL.post := Contract.env (Γ := mkEnv globT []) (contract_cursor_limit (fun _ => rfl) (fun s hs => by
    cases hs) k (by
  rintro ts hl ⟨n, a, b, rfl, hp⟩
  have hfin : ∀ z₀ : TV, z₀ = .int (max a (min n b)) → plimL.post [.int n, .int a, .int b] z₀ := fun z₀ hz₀ => plim_fin hz₀
  generalize plimL.post [.int n, .int a, .int b] = R at hfin ⊢
  unfold tr_cursor_limit
  simp only [Tree.den, E.den, P1.den, P2.den, P3.den, qa, qb, qc, qd, qe, qf, qg, qh, zac, zab, zad, zaa, zae, TV.cell, zah, zai, zag, zaf, qi, qj, qk, ql, qm, qn, ne_eq, qo, qp, forall_eq, qs, qt, Int.reduceToNat, qu, exists_eq_left']
  exact hfin _ rfl)) rfl
def pcckL : Law := ⟨fun ts => ∃ (w : Int) (h : Int) (b : Int), ts = [.agg [.int w, .int h, .int 0, .int b, .bool false]] ∧ (1 ≤ w ∧ w ≤ 132 ∧ 1 ≤ h ∧ h ≤ 60 ∧ b = h), fun ts z₀ => ∀ (w : Int) (h : Int) (b : Int), ts = [.agg [.int w, .int h, .int 0, .int b, .bool false]] → z₀ = .int 0⟩
theorem pcck_pre {w : Int} {h : Int} {b : Int} (h₀ : 1 ≤ w ∧ w ≤ 132 ∧ 1 ≤ h ∧ h ≤ 60 ∧ b = h) : pcckL.pre [.agg [.int w, .int h, .int 0, .int b, .bool false]] := ⟨w, h, b, rfl, h₀⟩
theorem pcck_fin {w : Int} {h : Int} {b : Int} {z₀ : TV} (h₀ : z₀ = .int 0) : pcckL.post [.agg [.int w, .int h, .int 0, .int b, .bool false]] z₀ := fun w₁ h₁ b₁ e => by
  simp only [List.cons.injEq, TV.str.injEq, TV.int.injEq, TV.bool.injEq, TV.agg.injEq, TV.list.injEq, zat, and_true, true_and, and_assoc] at e; obtain ⟨rfl, rfl, rfl⟩ := e
  exact h₀
theorem pcck_all {w : Int} {h : Int} {b : Int} {Q : TV → Prop} : (∀ z₀, pcckL.post [.agg [.int w, .int h, .int 0, .int b, .bool false]] z₀ → Q z₀) ↔ Q (.int 0) := ⟨fun h₀ => h₀ _ (pcck_fin rfl), fun h₀ z₀ hr => by rw [hr _ _ _ rfl]; exact h₀⟩
theorem pcck_c (k : Nat) : Contract Tryz.prog (mkEnv globT []) gtabU (qcn k) pcckL.pre pcckL.post := Contract.env (Γ := mkEnv globT []) (contract_cursor_Check (fun _ => rfl) (fun s hs => by
    cases hs) k (by
  rintro ts hl ⟨w, h, b, rfl, hp⟩
  have hfin : ∀ z₀ : TV, z₀ = .int 0 → pcckL.post [.agg [.int w, .int h, .int 0, .int b, .bool false]] z₀ := fun z₀ hz₀ => pcck_fin hz₀
  generalize pcckL.post [.agg [.int w, .int h, .int 0, .int b, .bool false]] = R at hfin ⊢
  unfold tr_cursor_Check
  simp only [Tree.den, E.den, P1.den, P2.den, P3.den, qa, qb, qc, qd, qe, qf, qg, qh, zac, zab, zad, zaa, zae, TV.cell, zah, zai, zag, zaf, qi, qj, qk, ql, qm, qn, ne_eq, qo, qp, forall_eq, qs, qt, Int.reduceToNat, qu, exists_eq_left']
  exact ⟨fun h1 => absurd h1 (by omega), fun _ => ⟨fun h1 => absurd h1 (by omega), fun _ => ⟨fun h1 => absurd h1 (by omega), fun _ => ⟨fun h1 => absurd h1 (by omega), fun _ => ⟨fun h1 => absurd h1 (by omega), fun _ => ⟨fun h1 => absurd h1 (by omega), fun _ => ⟨fun h1 => absurd h1 (by omega), fun _ => hfin _ rfl⟩⟩⟩⟩⟩⟩⟩)) rfl
def pinsL : Law := ⟨fun ts => ∃ (r : Int) (c : Int) (p : Bool) (w : Int) (h : Int) (b : Int), ts = [.agg [.int r, .int c, .bool p], .agg [.int w, .int h, .int 0, .int b, .bool false]] ∧ (1 ≤ w ∧ w ≤ 132 ∧ 1 ≤ h ∧ h ≤ 60 ∧ b = h ∧ 0 ≤ r ∧ r < h ∧ 0 ≤ c ∧ c < w), fun ts z₀ => ∀ (r : Int) (c : Int) (p : Bool) (w : Int) (h : Int) (b : Int), ts = [.agg [.int r, .int c, .bool p], .agg [.int w, .int h, .int 0, .int b, .bool false]] → z₀ = .agg [.int r, .int c, .bool p]⟩
theorem pins_pre {r : Int} {c : Int} {p : Bool} {w : Int} {h : Int} {b : Int} (h₀ : 1 ≤ w ∧ w ≤ 132 ∧ 1 ≤ h ∧ h ≤ 60 ∧ b = h ∧ 0 ≤ r ∧ r < h ∧ 0 ≤ c ∧ c < w) : pinsL.pre [.agg [.int r, .int c, .bool p], .agg [.int w, .int h, .int 0, .int b, .bool false]] := ⟨r, c, p, w, h, b, rfl, h₀⟩
theorem pins_fin {r : Int} {c : Int} {p : Bool} {w : Int} {h : Int} {b : Int} {z₀ : TV} (h₀ : z₀ = .agg [.int r, .int c, .bool p]) : pinsL.post [.agg [.int r, .int c, .bool p], .agg [.int w, .int h, .int 0, .int b, .bool false]] z₀ := fun r₁ c₁ p₁ w₁ h₁ b₁ e => by
  simp only [List.cons.injEq, TV.str.injEq, TV.int.injEq, TV.bool.injEq, TV.agg.injEq, TV.list.injEq, zat, and_true, true_and, and_assoc] at e; obtain ⟨rfl, rfl, rfl, rfl, rfl, rfl⟩ := e
  exact h₀
theorem pins_all {r : Int} {c : Int} {p : Bool} {w : Int} {h : Int} {b : Int} {Q : TV → Prop} : (∀ z₀, pinsL.post [.agg [.int r, .int c, .bool p], .agg [.int w, .int h, .int 0, .int b, .bool false]] z₀ → Q z₀) ↔ Q (.agg [.int r, .int c, .bool p]) := ⟨fun h₀ => h₀ _ (pins_fin rfl), fun h₀ z₀ hr => by rw [hr _ _ _ _ _ _ rfl]; exact h₀⟩
theorem pins_c (k : Nat) : Contract Tryz.prog (mkEnv globT []) gtabU (qch k) pinsL.pre pinsL.post := Contract.env (Γ := mkEnv globT [plimL]) (contract_cursor_inside (fun _ => rfl) (fun s hs => by
    simp only [cx_cursor_inside, List.mem_cons, List.not_mem_nil, or_false] at hs
    rcases hs with rfl
    · exact Contract.inEnv rfl (plim_c 0) rfl) k (by
  rintro ts hl ⟨r, c, p, w, h, b, rfl, hp⟩
  have hfin : ∀ z₀ : TV, z₀ = .agg [.int r, .int c, .bool p] → pinsL.post [.agg [.int r, .int c, .bool p], .agg [.int w, .int h, .int 0, .int b, .bool false]] z₀ := fun z₀ hz₀ => pins_fin hz₀
  generalize pinsL.post [.agg [.int r, .int c, .bool p], .agg [.int w, .int h, .int 0, .int b, .bool false]] = R at hfin ⊢
  unfold tr_cursor_inside
  have e1 : IntKind.wrap .i64 (h - 1) = h - 1 := wrap_i64 (by omega) (by omega)
  have e2 : IntKind.wrap .i64 (w - 1) = w - 1 := wrap_i64 (by omega) (by omega)
  have e3 : max 0 (min r (h - 1)) = r := by omega
  have e4 : max 0 (min c (w - 1)) = c := by omega
  simp only [Tree.den, E.den, P1.den, P2.den, P3.den, qa, qb, qc, qd, qe, qf, qg, qh, zac, zab, zad, zaa, zae, TV.cell, zah, zai, zag, zaf, qi, qj, qk, ql, qm, qn, ne_eq, qo, qp, forall_eq, qs, qt, Int.reduceToNat, qu, exists_eq_left', e1, e2, plim_all, e3, e4]
  exact ⟨plim_pre trivial, plim_pre trivial, hfin _ rfl⟩)) rfl
def pregL : Law := ⟨fun ts => ∃ (r : Int) (w : Int) (h : Int) (b : Int), ts = [.int r, .agg [.int w, .int h, .int 0, .int b, .bool false]] ∧ (b = h), fun ts z₀ => ∀ (r : Int) (w : Int) (h : Int) (b : Int), ts = [.int r, .agg [.int w, .int h, .int 0, .int b, .bool false]] → z₀ = .bool (decide (0 ≤ r) && decide (r < h))⟩
theorem preg_pre {r : Int} {w : Int} {h : Int} {b : Int} (h₀ : b = h) : pregL.pre [.int r, .agg [.int w, .int h, .int 0, .int b, .bool false]] := ⟨r, w, h, b, rfl, h₀⟩
theorem preg_fin {r : Int} {w : Int} {h : Int} {b : Int} {z₀ : TV} (h₀ : z₀ = .bool (decide (0 ≤ r) && decide (r < h))) : pregL.post [.int r, .agg [.int w, .int h, .int 0, .int b, .bool false]] z₀ := fun r₁ w₁ h₁ b₁ e => by
  simp only [List.cons.injEq, TV.str.injEq, TV.int.injEq, TV.bool.injEq, TV.agg.injEq, TV.list.injEq, zat, and_true, true_and, and_assoc] at e; obtain ⟨rfl, rfl, rfl, rfl⟩ := e
  exact h₀
theorem preg_all {r : Int} {w : Int} {h : Int} {b : Int} {Q : TV → Prop} : (∀ z₀, pregL.post [.int r, .agg [.int w, .int h, .int 0, .int b, .bool false]] z₀ → Q z₀) ↔ Q (.bool (decide (0 ≤ r) && decide (r < h))) := ⟨fun h₀ => h₀ _ (preg_fin rfl), fun h₀ z₀ hr => by rw [hr _ _ _ _ rfl]; exact h₀⟩
theorem preg_c (k : Nat) : Contract Tryz.prog (mkEnv globT []) gtabU (qc8 k) pregL.pre pregL.post := Contract.env (Γ := mkEnv globT []) (contract_cursor_region (fun _ => rfl) (fun s hs => by
    cases hs) k (by
  rintro ts hl ⟨r, w, h, b, rfl, hp⟩
  have hfin : ∀ z₀ : TV, z₀ = .bool (decide (0 ≤ r) && decide (r < h)) → pregL.post [.int r, .agg [.int w, .int h, .int 0, .int b, .bool false]] z₀ := fun z₀ hz₀ => preg_fin hz₀
  generalize pregL.post [.int r, .agg [.int w, .int h, .int 0, .int b, .bool false]] = R at hfin ⊢
  unfold tr_cursor_region
  simp only [Tree.den, E.den, P1.den, P2.den, P3.den, qa, qb, qc, qd, qe, qf, qg, qh, zac, zab, zad, zaa, zae, TV.cell, zah, zai, zag, zaf, qi, qj, qk, ql, qm, qn, ne_eq, qo, qp, forall_eq, qs, qt, Int.reduceToNat, qu, exists_eq_left']
  subst hp
  exact ⟨fun h1 => hfin _ (by rw [decide_eq_true h1, Bool.true_and]), fun h1 => hfin _ (by rw [decide_eq_false h1, Bool.false_and])⟩)) rfl
def prightL : Law := ⟨fun ts => ∃ (r : Int) (c : Int) (n : Int) (w : Int) (h : Int) (b : Int), ts = [.agg [.int r, .int c, .bool false], .int n, .agg [.int w, .int h, .int 0, .int b, .bool false]] ∧ (1 ≤ w ∧ w ≤ 132 ∧ 1 ≤ h ∧ h ≤ 60 ∧ b = h ∧ 0 ≤ r ∧ r < h ∧ 0 ≤ c ∧ c < w ∧ -1000 ≤ n ∧ n ≤ 1000), fun ts z₀ => ∀ (r : Int) (c : Int) (n : Int) (w : Int) (h : Int) (b : Int), ts = [.agg [.int r, .int c, .bool false], .int n, .agg [.int w, .int h, .int 0, .int b, .bool false]] → z₀ = .agg [.int r, .int (max 0 (min (c + n) (w - 1))), .bool false]⟩
theorem pright_pre {r : Int} {c : Int} {n : Int} {w : Int} {h : Int} {b : Int} (h₀ : 1 ≤ w ∧ w ≤ 132 ∧ 1 ≤ h ∧ h ≤ 60 ∧ b = h ∧ 0 ≤ r ∧ r < h ∧ 0 ≤ c ∧ c < w ∧ -1000 ≤ n ∧ n ≤ 1000) : prightL.pre [.agg [.int r, .int c, .bool false], .int n, .agg [.int w, .int h, .int 0, .int b, .bool false]] := ⟨r, c, n, w, h, b, rfl, h₀⟩
theorem pright_fin {r : Int} {c : Int} {n : Int} {w : Int} {h : Int} {b : Int} {z₀ : TV} (h₀ : z₀ = .agg [.int r, .int (max 0 (min (c + n) (w - 1))), .bool false]) : prightL.post [.agg [.int r, .int c, .bool false], .int n, .agg [.int w, .int h, .int 0, .int b, .bool false]] z₀ := fun r₁ c₁ n₁ w₁ h₁ b₁ e => by
  simp only [List.cons.injEq, TV.str.injEq, TV.int.injEq, TV.bool.injEq, TV.agg.injEq, TV.list.injEq, zat, and_true, true_and, and_assoc] at e; obtain ⟨rfl, rfl, rfl, rfl, rfl, rfl⟩ := e
  exact h₀
theorem pright_all {r : Int} {c : Int} {n : Int} {w : Int} {h : Int} {b : Int} {Q : TV → Prop} : (∀ z₀, prightL.post [.agg [.int r, .int c, .bool false], .int n, .agg [.int w, .int h, .int 0, .int b, .bool false]] z₀ → Q z₀) ↔ Q (.agg [.int r, .int (max 0 (min (c + n) (w - 1))), .bool false]) := ⟨fun h₀ => h₀ _ (pright_fin rfl), fun h₀ z₀ hr => by rw [hr _ _ _ _ _ _ rfl]; exact h₀⟩
theorem pright_c (k : Nat) : Contract Tryz.prog (mkEnv globT []) gtabU (qdj k) prightL.pre prightL.post := Contract.env (Γ := mkEnv globT [pcckL, plimL, pinsL]) (contract_cursor_Right (fun _ => rfl) (fun s hs => by
    simp only [cx_cursor_Right, List.mem_cons, List.not_mem_nil, or_false] at hs
    rcases hs with rfl | rfl | rfl
    · exact Contract.inEnv rfl (pcck_c 0) rfl
    · exact Contract.inEnv rfl (plim_c 1) rfl
    · exact Contract.inEnv rfl (pins_c 2) rfl) k (by
  rintro ts hl ⟨r, c, n, w, h, b, rfl, hp⟩
  have hfin : ∀ z₀ : TV, z₀ = .agg [.int r, .int (max 0 (min (c + n) (w - 1))), .bool false] → prightL.post [.agg [.int r, .int c, .bool false], .int n, .agg [.int w, .int h, .int 0, .int b, .bool false]] z₀ := fun z₀ hz₀ => pright_fin hz₀
  generalize prightL.post [.agg [.int r, .int c, .bool false], .int n, .agg [.int w, .int h, .int 0, .int b, .bool false]] = R at hfin ⊢
  unfold tr_cursor_Right
  have e1 : IntKind.wrap .i64 (h - 1) = h - 1 := wrap_i64 (by omega) (by omega)
  have e2 : IntKind.wrap .i64 (w - 1) = w - 1 := wrap_i64 (by omega) (by omega)
  have e3 : IntKind.wrap .i64 (c + max (-1000) (min n 1000)) = c + n := by rw [wrap_i64 (by omega) (by omega)]; omega
  have q := pins_pre (r := r) (c := c) (p := false) (w := w) (h := h) (b := b) ⟨by omega, by omega, by omega, by omega, by omega, by omega, by omega, by omega, by omega⟩
  simp only [Tree.den, E.den, P1.den, P2.den, P3.den, qa, qb, qc, qd, qe, qf, qg, qh, zac, zab, zad, zaa, zae, TV.cell, zah, zai, zag, zaf, qi, qj, qk, ql, qm, qn, ne_eq, qo, qp, forall_eq, qs, qt, Int.reduceToNat, qu, exists_eq_left', e1, e2, pcck_all, pins_all, plim_all, e3]
  exact ⟨pcck_pre ⟨by omega, by omega, by omega, by omega, by omega⟩, fun h => absurd trivial h, fun _ => ⟨q, plim_pre trivial, plim_pre trivial, hfin _ rfl⟩⟩)) rfl
def pupL : Law := ⟨fun ts => ∃ (r : Int) (c : Int) (n : Int) (w : Int) (h : Int) (b : Int), ts = [.agg [.int r, .int c, .bool false], .int n, .agg [.int w, .int h, .int 0, .int b, .bool false]] ∧ (1 ≤ w ∧ w ≤ 132 ∧ 1 ≤ h ∧ h ≤ 60 ∧ b = h ∧ 0 ≤ r ∧ r < h ∧ 0 ≤ c ∧ c < w ∧ -1000 ≤ n ∧ n ≤ 1000), fun ts z₀ => ∀ (r : Int) (c : Int) (n : Int) (w : Int) (h : Int) (b : Int), ts = [.agg [.int r, .int c, .bool false], .int n, .agg [.int w, .int h, .int 0, .int b, .bool false]] → z₀ = .agg [.int (max 0 (min (r - n) (h - 1))), .int c, .bool false]⟩
theorem pup_fin {r : Int} {c : Int} {n : Int} {w : Int} {h : Int} {b : Int} {z₀ : TV} (h₀ : z₀ = .agg [.int (max 0 (min (r - n) (h - 1))), .int c, .bool false]) : pupL.post [.agg [.int r, .int c, .bool false], .int n, .agg [.int w, .int h, .int 0, .int b, .bool false]] z₀ := fun r₁ c₁ n₁ w₁ h₁ b₁ e => by
  simp only [List.cons.injEq, TV.str.injEq, TV.int.injEq, TV.bool.injEq, TV.agg.injEq, TV.list.injEq, zat, and_true, true_and, and_assoc] at e; obtain ⟨rfl, rfl, rfl, rfl, rfl, rfl⟩ := e
  exact h₀
theorem pup_c (k : Nat) : Contract Tryz.prog (mkEnv globT []) gtabU (qfy k) pupL.pre pupL.post := Contract.env (Γ := mkEnv globT [pcckL, plimL, pinsL, pregL]) (contract_cursor_Up (fun _ => rfl) (fun s hs => by
    simp only [cx_cursor_Up, List.mem_cons, List.not_mem_nil, or_false] at hs
    rcases hs with rfl | rfl | rfl | rfl
    · exact Contract.inEnv rfl (pcck_c 0) rfl
    · exact Contract.inEnv rfl (plim_c 1) rfl
    · exact Contract.inEnv rfl (pins_c 2) rfl
    · exact Contract.inEnv rfl (preg_c 3) rfl) k (by
  rintro ts hl ⟨r, c, n, w, h, b, rfl, hp⟩
  have hfin : ∀ z₀ : TV, z₀ = .agg [.int (max 0 (min (r - n) (h - 1))), .int c, .bool false] → pupL.post [.agg [.int r, .int c, .bool false], .int n, .agg [.int w, .int h, .int 0, .int b, .bool false]] z₀ := fun z₀ hz₀ => pup_fin hz₀
  generalize pupL.post [.agg [.int r, .int c, .bool false], .int n, .agg [.int w, .int h, .int 0, .int b, .bool false]] = R at hfin ⊢
  unfold tr_cursor_Up
  have e1 : IntKind.wrap .i64 (h - 1) = h - 1 := wrap_i64 (by omega) (by omega)
  have e2 : IntKind.wrap .i64 (w - 1) = w - 1 := wrap_i64 (by omega) (by omega)
  have e3 : IntKind.wrap .i64 (r - max (-1000) (min n 1000)) = r - n := by rw [wrap_i64 (by omega) (by omega)]; omega
  have e4 : (decide (0 ≤ r) && decide (r < h)) = true := by rw [decide_eq_true (by omega), decide_eq_true (by omega)]; rfl
  have e5 : IntKind.wrap .i64 (b - 1) = h - 1 := by rw [wrap_i64 (by omega) (by omega)]; omega
  have q := pins_pre (r := r) (c := c) (p := false) (w := w) (h := h) (b := b) ⟨by omega, by omega, by omega, by omega, by omega, by omega, by omega, by omega, by omega⟩
  simp only [Tree.den, E.den, P1.den, P2.den, P3.den, qa, qb, qc, qd, qe, qf, qg, qh, zac, zab, zad, zaa, zae, TV.cell, zah, zai, zag, zaf, qi, qj, qk, ql, qm, qn, ne_eq, qo, qp, forall_eq, qs, qt, Int.reduceToNat, qu, exists_eq_left', e1, e2, pcck_all, pins_all, plim_all, preg_all, e3, e4, e5]
  exact ⟨pcck_pre ⟨by omega, by omega, by omega, by omega, by omega⟩, fun h => absurd trivial h, fun _ => ⟨q, preg_pre (by omega), fun _ => ⟨plim_pre trivial, plim_pre trivial, hfin _ rfl⟩, fun h => absurd h (by decide)⟩⟩)) rfl
def colAt (c k : Int) (n : Nat) : Int := c + min (n : Int) ((k - c).toNat : Nat) - min ((n - (k - c).toNat : Nat) : Int) ((c - k).toNat : Nat)
def rowAt (r c i k : Int) (n : Nat) : Int := r + min ((n - (k - c).toNat - (c - k).toNat : Nat) : Int) ((i - r).toNat : Nat) - min ((n - (k - c).toNat - (c - k).toNat - (i - r).toNat : Nat) : Int) ((r - i).toNat : Nat)
theorem kgetD_app (a b : List (List UInt8)) (n : Nat) : (a ++ b).getD n [] = if n < a.length then a.getD n [] else b.getD (n - a.length) [] := by
  simp only [List.getD_eq_getElem?_getD, List.getElem?_append]
  split <;> rfl
theorem kgetD_rep (m n : Nat) (s : List UInt8) : (List.replicate m s).getD n [] = if n < m then s else [] := by
  rw [List.getD_eq_getElem?_getD, List.getElem?_replicate]
  split <;> rfl
theorem keyN_get (r c i k : Int) (n : Nat) (h : n < (keyN r c i k).length) :
    (n < (k - c).toNat ∧ (keyN r c i k).getD n [] = [82, 105, 103, 104, 116]) ∨ ((k - c).toNat ≤ n ∧ n < (k - c).toNat + (c - k).toNat ∧ (keyN r c i k).getD n [] = [76, 101, 102, 116]) ∨
    ((k - c).toNat + (c - k).toNat ≤ n ∧ n < (k - c).toNat + (c - k).toNat + (i - r).toNat ∧ (keyN r c i k).getD n [] = [68, 111, 119, 110]) ∨
    ((k - c).toNat + (c - k).toNat + (i - r).toNat ≤ n ∧ n < (k - c).toNat + (c - k).toNat + (i - r).toNat + (r - i).toNat ∧ (keyN r c i k).getD n [] = [85, 112]) := by
  rw [keyN_len] at h
  unfold keyN
  simp only [kgetD_app, List.length_append, List.length_replicate, kgetD_rep]
  by_cases h1 : n < (k - c).toNat
  · exact .inl ⟨h1, by rw [if_pos (by omega), if_pos (by omega), if_pos h1, if_pos h1]⟩
  · by_cases h2 : n < (k - c).toNat + (c - k).toNat
    · exact .inr (.inl ⟨by omega, h2, by rw [if_pos (by omega), if_pos h2, if_neg h1, if_pos (by omega)]⟩)
    · by_cases h3 : n < (k - c).toNat + (c - k).toNat + (i - r).toNat
      · exact .inr (.inr (.inl ⟨by omega, h3, by rw [if_pos h3, if_neg h2, if_pos (by omega)]⟩))
      · exact .inr (.inr (.inr ⟨by omega, by omega, by rw [if_neg h3, if_pos (by omega)]⟩))
theorem at_in {r c i k w h : Int} (b4 : 0 ≤ r) (b5 : r < h) (b6 : 0 ≤ c) (b7 : c < w) (i0 : 0 ≤ i) (i1 : i < h) (k0 : 0 ≤ k) (k1 : k < w) (n : Nat) : 0 ≤ rowAt r c i k n ∧ rowAt r c i k n < h ∧ 0 ≤ colAt c k n ∧ colAt c k n < w := by
  unfold rowAt colAt
  omega
theorem go_right {r c i k w : Int} {n : Nat} (k1 : k < w) (k0 : 0 ≤ k) (b6 : 0 ≤ c) (hn : n < (k - c).toNat) : max 0 (min (colAt c k n + 1) (w - 1)) = colAt c k (n + 1) ∧ rowAt r c i k (n + 1) = rowAt r c i k n := by
  unfold rowAt colAt
  omega
theorem go_left {r c i k w : Int} {n : Nat} (k1 : k < w) (k0 : 0 ≤ k) (b6 : 0 ≤ c) (b7 : c < w) (hn : (k - c).toNat ≤ n) (hm : n < (k - c).toNat + (c - k).toNat) : max 0 (min (colAt c k n + -1) (w - 1)) = colAt c k (n + 1) ∧ rowAt r c i k (n + 1) = rowAt r c i k n := by
  unfold rowAt colAt
  omega
theorem at_start (r c i k : Int) : rowAt r c i k 0 = r ∧ colAt c k 0 = c := by
  unfold rowAt colAt
  omega
theorem at_end (r c i k : Int) : rowAt r c i k (keyN r c i k).length = i ∧ colAt c k (keyN r c i k).length = k := by
  rw [keyN_len]
  unfold rowAt colAt
  omega
theorem n_eqs : ([76, 101, 102, 116] = ([82, 105, 103, 104, 116] : List UInt8)) = False ∧ (([68, 111, 119, 110] : List UInt8) = [82, 105, 103, 104, 116]) = False ∧ (([68, 111, 119, 110] : List UInt8) = [76, 101, 102, 116]) = False ∧ (([85, 112] : List UInt8) = [82, 105, 103, 104, 116]) = False ∧ (([85, 112] : List UInt8) = [76, 101, 102, 116]) = False ∧ (([85, 112] : List UInt8) = [68, 111, 119, 110]) = False ∧ (([68, 111, 119, 110] : List UInt8) = [85, 112]) = False := by
  refine ⟨?_, ?_, ?_, ?_, ?_, ?_, ?_⟩ <;> exact eq_false (by decide)
end Go.Proofs.YtlhagkbhojmjpaaGreatDoor

