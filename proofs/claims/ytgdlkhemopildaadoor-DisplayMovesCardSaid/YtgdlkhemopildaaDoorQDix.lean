/- Written by this repo's own program out of its texts. -/
import Derived.Test.YtgdlkhemopildaaDoorQDiw
namespace Go.Proofs.YtgdlkhemopildaaDoor
set_option linter.unusedSimpArgs false
set_option linter.unusedVariables false
set_option linter.unusedSectionVars false
def plimL : Law := ⟨fun ts => ∃ (n : Int) (a : Int) (b : Int), ts = [.int n, .int a, .int b] ∧ (True), fun ts z₀ => ∀ (n : Int) (a : Int) (b : Int), ts = [.int n, .int a, .int b] → z₀ = .int (max a (min n b))⟩
theorem plim_pre {n : Int} {a : Int} {b : Int} (h : True) : plimL.pre [.int n, .int a, .int b] := ⟨n, a, b, rfl, h⟩
theorem plim_fin {n : Int} {a : Int} {b : Int} {z₀ : TV} (h : z₀ = .int (max a (min n b))) : plimL.post [.int n, .int a, .int b] z₀ := fun n₁ a₁ b₁ e => by
  simp only [List.cons.injEq, TV.str.injEq, TV.int.injEq, TV.bool.injEq, TV.agg.injEq, TV.list.injEq, zat, and_true, true_and, and_assoc] at e; obtain ⟨rfl, rfl, rfl⟩ := e
  exact h
theorem plim_all {n : Int} {a : Int} {b : Int} {Q : TV → Prop} : (∀ z₀, plimL.post [.int n, .int a, .int b] z₀ → Q z₀) ↔ Q (.int (max a (min n b))) := ⟨fun h => h _ (plim_fin rfl), fun h z₀ hr => by rw [hr _ _ _ rfl]; exact h⟩
theorem plim_c (k : Nat) : Contract Tryd.prog (mkEnv globT []) gtabU (qcb k) plimL.pre plimL.post := Contract.env (Γ := mkEnv globT []) (contract_cursor_limit (fun _ => rfl) (fun s hs => by
    cases hs) k (by
  rintro ts hl ⟨n, a, b, rfl, hp⟩
  have hfin : ∀ z₀ : TV, z₀ = .int (max a (min n b)) → plimL.post [.int n, .int a, .int b] z₀ := fun z₀ hz₀ => plim_fin hz₀
  generalize plimL.post [.int n, .int a, .int b] = R at hfin ⊢
  unfold tr_cursor_limit
  simp only [Tree.den, E.den, P1.den, P2.den, P3.den, qa, qb, qc, qd, qe, qf, qg, qh, zac, zab, zad, zaa, zae, TV.cell, zah, zai, zag, zaf, qi, qj, qk, ql, qm, qn, ne_eq, qo, qp, forall_eq, qs, qt, Int.reduceToNat, qu, exists_eq_left']
  exact hfin _ rfl)) rfl
def pcckL : Law := ⟨fun ts => ∃ (w : Int) (h : Int) (b : Int), ts = [.agg [.int w, .int h, .int 0, .int b, .bool false]] ∧ (1 ≤ w ∧ w ≤ 132 ∧ 1 ≤ h ∧ h ≤ 60 ∧ b = h), fun ts z₀ => ∀ (w : Int) (h : Int) (b : Int), ts = [.agg [.int w, .int h, .int 0, .int b, .bool false]] → z₀ = .int 0⟩
theorem pcck_pre {w : Int} {h : Int} {b : Int} (h₀ : 1 ≤ w ∧ w ≤ 132 ∧ 1 ≤ h ∧ h ≤ 60 ∧ b = h) : pcckL.pre [.agg [.int w, .int h, .int 0, .int b, .bool false]] := ⟨w, h, b, rfl, h₀⟩
theorem pcck_fin {w : Int} {h : Int} {b : Int} {z₀ : TV} (h₀ : z₀ = .int 0) : pcckL.post [.agg [.int w, .int h, .int 0, .int b, .bool false]] z₀ := fun w₁ h₁ b₁ e => by
  simp only [List.cons.injEq, TV.str.injEq, TV.int.injEq, TV.bool.injEq, TV.agg.injEq, TV.list.injEq, zat, and_true, true_and, and_assoc] at e; obtain ⟨rfl, rfl, rfl⟩ := e
  exact h₀
theorem pcck_all {w : Int} {h : Int} {b : Int} {Q : TV → Prop} : (∀ z₀, pcckL.post [.agg [.int w, .int h, .int 0, .int b, .bool false]] z₀ → Q z₀) ↔ Q (.int 0) := ⟨fun h₀ => h₀ _ (pcck_fin rfl), fun h₀ z₀ hr => by rw [hr _ _ _ rfl]; exact h₀⟩
theorem pcck_c (k : Nat) : Contract Tryd.prog (mkEnv globT []) gtabU (qcn k) pcckL.pre pcckL.post := Contract.env (Γ := mkEnv globT []) (contract_cursor_Check (fun _ => rfl) (fun s hs => by
    cases hs) k (by
  rintro ts hl ⟨w, h, b, rfl, hp⟩
  have hfin : ∀ z₀ : TV, z₀ = .int 0 → pcckL.post [.agg [.int w, .int h, .int 0, .int b, .bool false]] z₀ := fun z₀ hz₀ => pcck_fin hz₀
  generalize pcckL.post [.agg [.int w, .int h, .int 0, .int b, .bool false]] = R at hfin ⊢
  unfold tr_cursor_Check
  simp only [Tree.den, E.den, P1.den, P2.den, P3.den, qa, qb, qc, qd, qe, qf, qg, qh, zac, zab, zad, zaa, zae, TV.cell, zah, zai, zag, zaf, qi, qj, qk, ql, qm, qn, ne_eq, qo, qp, forall_eq, qs, qt, Int.reduceToNat, qu, exists_eq_left']
  exact ⟨fun h1 => absurd h1 (by omega), fun _ => ⟨fun h1 => absurd h1 (by omega), fun _ => ⟨fun h1 => absurd h1 (by omega), fun _ => ⟨fun h1 => absurd h1 (by omega), fun _ => ⟨fun h1 => absurd h1 (by omega), fun _ => ⟨fun h1 => absurd h1 (by omega), fun _ => ⟨fun h1 => absurd h1 (by omega), fun _ => hfin _ rfl⟩⟩⟩⟩⟩⟩⟩)) rfl
def pinsL : Law := ⟨fun ts => ∃ (r : Int) (c : Int) (p : Bool) (w : Int) (h : Int) (b : Int), ts = [.agg [.int r, .int c, .bool p], .agg [.int w, .int h, .int 0, .int b, .bool false]] ∧ (1 ≤ w ∧ w ≤ 132 ∧ 1 ≤ h ∧ h ≤ 60 ∧ b = h ∧ 0 ≤ r ∧ r < h ∧ 0 ≤ c ∧ c < w), fun ts z₀ => ∀ (r : Int) (c : Int) (p : Bool) (w : Int) (h : Int) (b : Int), ts = [.agg [.int r, .int c, .bool p], .agg [.int w, .int h, .int 0, .int b, .bool false]] → z₀ = .agg [.int r, .int c, .bool p]⟩
theorem pins_pre {r : Int} {c : Int} {p : Bool} {w : Int} {h : Int} {b : Int} (h₀ : 1 ≤ w ∧ w ≤ 132 ∧ 1 ≤ h ∧ h ≤ 60 ∧ b = h ∧ 0 ≤ r ∧ r < h ∧ 0 ≤ c ∧ c < w) : pinsL.pre [.agg [.int r, .int c, .bool p], .agg [.int w, .int h, .int 0, .int b, .bool false]] := ⟨r, c, p, w, h, b, rfl, h₀⟩
theorem pins_fin {r : Int} {c : Int} {p : Bool} {w : Int} {h : Int} {b : Int} {z₀ : TV} (h₀ : z₀ = .agg [.int r, .int c, .bool p]) : pinsL.post [.agg [.int r, .int c, .bool p], .agg [.int w, .int h, .int 0, .int b, .bool false]] z₀ := fun r₁ c₁ p₁ w₁ h₁ b₁ e => by
  simp only [List.cons.injEq, TV.str.injEq, TV.int.injEq, TV.bool.injEq, TV.agg.injEq, TV.list.injEq, zat, and_true, true_and, and_assoc] at e; obtain ⟨rfl, rfl, rfl, rfl, rfl, rfl⟩ := e
  exact h₀
theorem pins_all {r : Int} {c : Int} {p : Bool} {w : Int} {h : Int} {b : Int} {Q : TV → Prop} : (∀ z₀, pinsL.post [.agg [.int r, .int c, .bool p], .agg [.int w, .int h, .int 0, .int b, .bool false]] z₀ → Q z₀) ↔ Q (.agg [.int r, .int c, .bool p]) := ⟨fun h₀ => h₀ _ (pins_fin rfl), fun h₀ z₀ hr => by rw [hr _ _ _ _ _ _ rfl]; exact h₀⟩
theorem pins_c (k : Nat) : Contract Tryd.prog (mkEnv globT []) gtabU (qch k) pinsL.pre pinsL.post := Contract.env (Γ := mkEnv globT [plimL]) (contract_cursor_inside (fun _ => rfl) (fun s hs => by
    simp only [cx_cursor_inside, List.mem_cons, List.not_mem_nil, or_false] at hs
    rcases hs with rfl
    · exact Contract.inEnv rfl (plim_c 0) rfl) k (by
  rintro ts hl ⟨r, c, p, w, h, b, rfl, hp⟩
  have hfin : ∀ z₀ : TV, z₀ = .agg [.int r, .int c, .bool p] → pinsL.post [.agg [.int r, .int c, .bool p], .agg [.int w, .int h, .int 0, .int b, .bool false]] z₀ := fun z₀ hz₀ => pins_fin hz₀
  generalize pinsL.post [.agg [.int r, .int c, .bool p], .agg [.int w, .int h, .int 0, .int b, .bool false]] = R at hfin ⊢
  unfold tr_cursor_inside
  have e1 : IntKind.wrap .i64 (h - 1) = h - 1 := wrap_i64 (by omega) (by omega)
  have e2 : IntKind.wrap .i64 (w - 1) = w - 1 := wrap_i64 (by omega) (by omega)
  have e3 : max 0 (min r (h - 1)) = r := by omega
  have e4 : max 0 (min c (w - 1)) = c := by omega
  simp only [Tree.den, E.den, P1.den, P2.den, P3.den, qa, qb, qc, qd, qe, qf, qg, qh, zac, zab, zad, zaa, zae, TV.cell, zah, zai, zag, zaf, qi, qj, qk, ql, qm, qn, ne_eq, qo, qp, forall_eq, qs, qt, Int.reduceToNat, qu, exists_eq_left', e1, e2, plim_all, e3, e4]
  exact ⟨plim_pre trivial, plim_pre trivial, hfin _ rfl⟩)) rfl
def pregL : Law := ⟨fun ts => ∃ (r : Int) (w : Int) (h : Int) (b : Int), ts = [.int r, .agg [.int w, .int h, .int 0, .int b, .bool false]] ∧ (b = h), fun ts z₀ => ∀ (r : Int) (w : Int) (h : Int) (b : Int), ts = [.int r, .agg [.int w, .int h, .int 0, .int b, .bool false]] → z₀ = .bool (decide (0 ≤ r) && decide (r < h))⟩
theorem preg_pre {r : Int} {w : Int} {h : Int} {b : Int} (h₀ : b = h) : pregL.pre [.int r, .agg [.int w, .int h, .int 0, .int b, .bool false]] := ⟨r, w, h, b, rfl, h₀⟩
theorem preg_fin {r : Int} {w : Int} {h : Int} {b : Int} {z₀ : TV} (h₀ : z₀ = .bool (decide (0 ≤ r) && decide (r < h))) : pregL.post [.int r, .agg [.int w, .int h, .int 0, .int b, .bool false]] z₀ := fun r₁ w₁ h₁ b₁ e => by
  simp only [List.cons.injEq, TV.str.injEq, TV.int.injEq, TV.bool.injEq, TV.agg.injEq, TV.list.injEq, zat, and_true, true_and, and_assoc] at e; obtain ⟨rfl, rfl, rfl, rfl⟩ := e
  exact h₀
theorem preg_all {r : Int} {w : Int} {h : Int} {b : Int} {Q : TV → Prop} : (∀ z₀, pregL.post [.int r, .agg [.int w, .int h, .int 0, .int b, .bool false]] z₀ → Q z₀) ↔ Q (.bool (decide (0 ≤ r) && decide (r < h))) := ⟨fun h₀ => h₀ _ (preg_fin rfl), fun h₀ z₀ hr => by rw [hr _ _ _ _ rfl]; exact h₀⟩
theorem preg_c (k : Nat) : Contract Tryd.prog (mkEnv globT []) gtabU (qc8 k) pregL.pre pregL.post := Contract.env (Γ := mkEnv globT []) (contract_cursor_region (fun _ => rfl) (fun s hs => by
    cases hs) k (by
  rintro ts hl ⟨r, w, h, b, rfl, hp⟩
  have hfin : ∀ z₀ : TV, z₀ = .bool (decide (0 ≤ r) && decide (r < h)) → pregL.post [.int r, .agg [.int w, .int h, .int 0, .int b, .bool false]] z₀ := fun z₀ hz₀ => preg_fin hz₀
  generalize pregL.post [.int r, .agg [.int w, .int h, .int 0, .int b, .bool false]] = R at hfin ⊢
  unfold tr_cursor_region
  simp only [Tree.den, E.den, P1.den, P2.den, P3.den, qa, qb, qc, qd, qe, qf, qg, qh, zac, zab, zad, zaa, zae, TV.cell, zah, zai, zag, zaf, qi, qj, qk, ql, qm, qn, ne_eq, qo, qp, forall_eq, qs, qt, Int.reduceToNat, qu, exists_eq_left']
  subst hp
  exact ⟨fun h1 => hfin _ (by rw [decide_eq_true h1, Bool.true_and]), fun h1 => hfin _ (by rw [decide_eq_false h1, Bool.false_and])⟩)) rfl
def prightL : Law := ⟨fun ts => ∃ (r : Int) (c : Int) (n : Int) (w : Int) (h : Int) (b : Int), ts = [.agg [.int r, .int c, .bool false], .int n, .agg [.int w, .int h, .int 0, .int b, .bool false]] ∧ (1 ≤ w ∧ w ≤ 132 ∧ 1 ≤ h ∧ h ≤ 60 ∧ b = h ∧ 0 ≤ r ∧ r < h ∧ 0 ≤ c ∧ c < w ∧ -1000 ≤ n ∧ n ≤ 1000), fun ts z₀ => ∀ (r : Int) (c : Int) (n : Int) (w : Int) (h : Int) (b : Int), ts = [.agg [.int r, .int c, .bool false], .int n, .agg [.int w, .int h, .int 0, .int b, .bool false]] → z₀ = .agg [.int r, .int (max 0 (min (c + n) (w - 1))), .bool false]⟩
theorem pright_pre {r : Int} {c : Int} {n : Int} {w : Int} {h : Int} {b : Int} (h₀ : 1 ≤ w ∧ w ≤ 132 ∧ 1 ≤ h ∧ h ≤ 60 ∧ b = h ∧ 0 ≤ r ∧ r < h ∧ 0 ≤ c ∧ c < w ∧ -1000 ≤ n ∧ n ≤ 1000) : prightL.pre [.agg [.int r, .int c, .bool false], .int n, .agg [.int w, .int h, .int 0, .int b, .bool false]] := ⟨r, c, n, w, h, b, rfl, h₀⟩
theorem pright_fin {r : Int} {c : Int} {n : Int} {w : Int} {h : Int} {b : Int} {z₀ : TV} (h₀ : z₀ = .agg [.int r, .int (max 0 (min (c + n) (w - 1))), .bool false]) : prightL.post [.agg [.int r, .int c, .bool false], .int n, .agg [.int w, .int h, .int 0, .int b, .bool false]] z₀ := fun r₁ c₁ n₁ w₁ h₁ b₁ e => by
  simp only [List.cons.injEq, TV.str.injEq, TV.int.injEq, TV.bool.injEq, TV.agg.injEq, TV.list.injEq, zat, and_true, true_and, and_assoc] at e; obtain ⟨rfl, rfl, rfl, rfl, rfl, rfl⟩ := e
  exact h₀
theorem pright_all {r : Int} {c : Int} {n : Int} {w : Int} {h : Int} {b : Int} {Q : TV → Prop} : (∀ z₀, prightL.post [.agg [.int r, .int c, .bool false], .int n, .agg [.int w, .int h, .int 0, .int b, .bool false]] z₀ → Q z₀) ↔ Q (.agg [.int r, .int (max 0 (min (c + n) (w - 1))), .bool false]) := ⟨fun h₀ => h₀ _ (pright_fin rfl), fun h₀ z₀ hr => by rw [hr _ _ _ _ _ _ rfl]; exact h₀⟩
theorem pright_c (k : Nat) : Contract Tryd.prog (mkEnv globT []) gtabU (qdj k) prightL.pre prightL.post := Contract.env (Γ := mkEnv globT [pcckL, plimL, pinsL]) (contract_cursor_Right (fun _ => rfl) (fun s hs => by
    simp only [cx_cursor_Right, List.mem_cons, List.not_mem_nil, or_false] at hs
    rcases hs with rfl | rfl | rfl
    · exact Contract.inEnv rfl (pcck_c 0) rfl
    · exact Contract.inEnv rfl (plim_c 1) rfl
    · exact Contract.inEnv rfl (pins_c 2) rfl) k (by
  rintro ts hl ⟨r, c, n, w, h, b, rfl, hp⟩
  have hfin : ∀ z₀ : TV, z₀ = .agg [.int r, .int (max 0 (min (c + n) (w - 1))), .bool false] → prightL.post [.agg [.int r, .int c, .bool false], .int n, .agg [.int w, .int h, .int 0, .int b, .bool false]] z₀ := fun z₀ hz₀ => pright_fin hz₀
  generalize prightL.post [.agg [.int r, .int c, .bool false], .int n, .agg [.int w, .int h, .int 0, .int b, .bool false]] = R at hfin ⊢
  unfold tr_cursor_Right
  have e1 : IntKind.wrap .i64 (h - 1) = h - 1 := wrap_i64 (by omega) (by omega)
  have e2 : IntKind.wrap .i64 (w - 1) = w - 1 := wrap_i64 (by omega) (by omega)
  have e3 : IntKind.wrap .i64 (c + max (-1000) (min n 1000)) = c + n := by rw [wrap_i64 (by omega) (by omega)]; omega
  have q := pins_pre (r := r) (c := c) (p := false) (w := w) (h := h) (b := b) ⟨by omega, by omega, by omega, by omega, by omega, by omega, by omega, by omega, by omega⟩
  simp only [Tree.den, E.den, P1.den, P2.den, P3.den, qa, qb, qc, qd, qe, qf, qg, qh, zac, zab, zad, zaa, zae, TV.cell, zah, zai, zag, zaf, qi, qj, qk, ql, qm, qn, ne_eq, qo, qp, forall_eq, qs, qt, Int.reduceToNat, qu, exists_eq_left', e1, e2, pcck_all, pins_all, plim_all, e3]
  exact ⟨pcck_pre ⟨by omega, by omega, by omega, by omega, by omega⟩, fun h => absurd trivial h, fun _ => ⟨q, plim_pre trivial, plim_pre trivial, hfin _ rfl⟩⟩)) rfl
def pupL : Law := ⟨fun ts => ∃ (r : Int) (c : Int) (n : Int) (w : Int) (h : Int) (b : Int), ts = [.agg [.int r, .int c, .bool false], .int n, .agg [.int w, .int h, .int 0, .int b, .bool false]] ∧ (1 ≤ w ∧ w ≤ 132 ∧ 1 ≤ h ∧ h ≤ 60 ∧ b = h ∧ 0 ≤ r ∧ r < h ∧ 0 ≤ c ∧ c < w ∧ -1000 ≤ n ∧ n ≤ 1000), fun ts z₀ => ∀ (r : Int) (c : Int) (n : Int) (w : Int) (h : Int) (b : Int), ts = [.agg [.int r, .int c, .bool false], .int n, .agg [.int w, .int h, .int 0, .int b, .bool false]] → z₀ = .agg [.int (max 0 (min (r - n) (h - 1))), .int c, .bool false]⟩
theorem pup_pre {r : Int} {c : Int} {n : Int} {w : Int} {h : Int} {b : Int} (h₀ : 1 ≤ w ∧ w ≤ 132 ∧ 1 ≤ h ∧ h ≤ 60 ∧ b = h ∧ 0 ≤ r ∧ r < h ∧ 0 ≤ c ∧ c < w ∧ -1000 ≤ n ∧ n ≤ 1000) : pupL.pre [.agg [.int r, .int c, .bool false], .int n, .agg [.int w, .int h, .int 0, .int b, .bool false]] := ⟨r, c, n, w, h, b, rfl, h₀⟩
theorem pup_fin {r : Int} {c : Int} {n : Int} {w : Int} {h : Int} {b : Int} {z₀ : TV} (h₀ : z₀ = .agg [.int (max 0 (min (r - n) (h - 1))), .int c, .bool false]) : pupL.post [.agg [.int r, .int c, .bool false], .int n, .agg [.int w, .int h, .int 0, .int b, .bool false]] z₀ := fun r₁ c₁ n₁ w₁ h₁ b₁ e => by
  simp only [List.cons.injEq, TV.str.injEq, TV.int.injEq, TV.bool.injEq, TV.agg.injEq, TV.list.injEq, zat, and_true, true_and, and_assoc] at e; obtain ⟨rfl, rfl, rfl, rfl, rfl, rfl⟩ := e
  exact h₀
theorem pup_all {r : Int} {c : Int} {n : Int} {w : Int} {h : Int} {b : Int} {Q : TV → Prop} : (∀ z₀, pupL.post [.agg [.int r, .int c, .bool false], .int n, .agg [.int w, .int h, .int 0, .int b, .bool false]] z₀ → Q z₀) ↔ Q (.agg [.int (max 0 (min (r - n) (h - 1))), .int c, .bool false]) := ⟨fun h₀ => h₀ _ (pup_fin rfl), fun h₀ z₀ hr => by rw [hr _ _ _ _ _ _ rfl]; exact h₀⟩
theorem pup_c (k : Nat) : Contract Tryd.prog (mkEnv globT []) gtabU (qfy k) pupL.pre pupL.post := Contract.env (Γ := mkEnv globT [pcckL, plimL, pinsL, pregL]) (contract_cursor_Up (fun _ => rfl) (fun s hs => by
    simp only [cx_cursor_Up, List.mem_cons, List.not_mem_nil, or_false] at hs
    rcases hs with rfl | rfl | rfl | rfl
    · exact Contract.inEnv rfl (pcck_c 0) rfl
    · exact Contract.inEnv rfl (plim_c 1) rfl
    · exact Contract.inEnv rfl (pins_c 2) rfl
    · exact Contract.inEnv rfl (preg_c 3) rfl) k (by
  rintro ts hl ⟨r, c, n, w, h, b, rfl, hp⟩
  have hfin : ∀ z₀ : TV, z₀ = .agg [.int (max 0 (min (r - n) (h - 1))), .int c, .bool false] → pupL.post [.agg [.int r, .int c, .bool false], .int n, .agg [.int w, .int h, .int 0, .int b, .bool false]] z₀ := fun z₀ hz₀ => pup_fin hz₀
  generalize pupL.post [.agg [.int r, .int c, .bool false], .int n, .agg [.int w, .int h, .int 0, .int b, .bool false]] = R at hfin ⊢
  unfold tr_cursor_Up
  have e1 : IntKind.wrap .i64 (h - 1) = h - 1 := wrap_i64 (by omega) (by omega)
  have e2 : IntKind.wrap .i64 (w - 1) = w - 1 := wrap_i64 (by omega) (by omega)
  have e3 : IntKind.wrap .i64 (r - max (-1000) (min n 1000)) = r - n := by rw [wrap_i64 (by omega) (by omega)]; omega
  have e4 : (decide (0 ≤ r) && decide (r < h)) = true := by rw [decide_eq_true (by omega), decide_eq_true (by omega)]; rfl
  have e5 : IntKind.wrap .i64 (b - 1) = h - 1 := by rw [wrap_i64 (by omega) (by omega)]; omega
  have q := pins_pre (r := r) (c := c) (p := false) (w := w) (h := h) (b := b) ⟨by omega, by omega, by omega, by omega, by omega, by omega, by omega, by omega, by omega⟩
  simp only [Tree.den, E.den, P1.den, P2.den, P3.den, qa, qb, qc, qd, qe, qf, qg, qh, zac, zab, zad, zaa, zae, TV.cell, zah, zai, zag, zaf, qi, qj, qk, ql, qm, qn, ne_eq, qo, qp, forall_eq, qs, qt, Int.reduceToNat, qu, exists_eq_left', e1, e2, pcck_all, pins_all, plim_all, preg_all, e3, e4, e5]
  exact ⟨pcck_pre ⟨by omega, by omega, by omega, by omega, by omega⟩, fun h => absurd trivial h, fun _ => ⟨q, preg_pre (by omega), fun _ => ⟨plim_pre trivial, plim_pre trivial, hfin _ rfl⟩, fun h => absurd h (by decide)⟩⟩)) rfl
def colAt (c k : Int) (n : Nat) : Int := c + min (n : Int) ((k - c).toNat : Nat) - min ((n - (k - c).toNat : Nat) : Int) ((c - k).toNat : Nat)
def rowAt (r c i k : Int) (n : Nat) : Int := r + min ((n - (k - c).toNat - (c - k).toNat : Nat) : Int) ((i - r).toNat : Nat) - min ((n - (k - c).toNat - (c - k).toNat - (i - r).toNat : Nat) : Int) ((r - i).toNat : Nat)
theorem kgetD_app (a b : List (List UInt8)) (n : Nat) : (a ++ b).getD n [] = if n < a.length then a.getD n [] else b.getD (n - a.length) [] := by
  simp only [List.getD_eq_getElem?_getD, List.getElem?_append]
  split <;> rfl
theorem kgetD_rep (m n : Nat) (s : List UInt8) : (List.replicate m s).getD n [] = if n < m then s else [] := by
  rw [List.getD_eq_getElem?_getD, List.getElem?_replicate]
  split <;> rfl
theorem keyN_get (r c i k : Int) (n : Nat) (h : n < (keyN r c i k).length) :
    (n < (k - c).toNat ∧ (keyN r c i k).getD n [] = [82, 105, 103, 104, 116]) ∨ ((k - c).toNat ≤ n ∧ n < (k - c).toNat + (c - k).toNat ∧ (keyN r c i k).getD n [] = [76, 101, 102, 116]) ∨
    ((k - c).toNat + (c - k).toNat ≤ n ∧ n < (k - c).toNat + (c - k).toNat + (i - r).toNat ∧ (keyN r c i k).getD n [] = [68, 111, 119, 110]) ∨
    ((k - c).toNat + (c - k).toNat + (i - r).toNat ≤ n ∧ n < (k - c).toNat + (c - k).toNat + (i - r).toNat + (r - i).toNat ∧ (keyN r c i k).getD n [] = [85, 112]) := by
  rw [keyN_len] at h
  unfold keyN
  simp only [kgetD_app, List.length_append, List.length_replicate, kgetD_rep]
  by_cases h1 : n < (k - c).toNat
  · exact .inl ⟨h1, by rw [if_pos (by omega), if_pos (by omega), if_pos h1, if_pos h1]⟩
  · by_cases h2 : n < (k - c).toNat + (c - k).toNat
    · exact .inr (.inl ⟨by omega, h2, by rw [if_pos (by omega), if_pos h2, if_neg h1, if_pos (by omega)]⟩)
    · by_cases h3 : n < (k - c).toNat + (c - k).toNat + (i - r).toNat
      · exact .inr (.inr (.inl ⟨by omega, h3, by rw [if_pos h3, if_neg h2, if_pos (by omega)]⟩))
      · exact .inr (.inr (.inr ⟨by omega, by omega, by rw [if_neg h3, if_pos (by omega)]⟩))
def MvI (r c i k : Int) (xs : List TV) : Prop := ∃ n : Nat, xs = [.int n, .int (rowAt r c i k n), .int (colAt c k n), .bool false] ∧ n ≤ (keyN r c i k).length
def Mvm (r c i k : Int) (xs : List TV) : Nat := (keyN r c i k).length - (xs.getD 0 (.int 0)).asInt.toNat
theorem mvm_i (r c i k : Int) (n : Nat) (x y z : TV) : Mvm r c i k [.int (n : Int), x, y, z] = (keyN r c i k).length - n := congrArg ((keyN r c i k).length - ·) (Int.toNat_natCast n)
theorem at_in {r c i k w h : Int} (b4 : 0 ≤ r) (b5 : r < h) (b6 : 0 ≤ c) (b7 : c < w) (i0 : 0 ≤ i) (i1 : i < h) (k0 : 0 ≤ k) (k1 : k < w) (n : Nat) : 0 ≤ rowAt r c i k n ∧ rowAt r c i k n < h ∧ 0 ≤ colAt c k n ∧ colAt c k n < w := by
  unfold rowAt colAt
  omega
theorem go_right {r c i k w : Int} {n : Nat} (k1 : k < w) (k0 : 0 ≤ k) (b6 : 0 ≤ c) (hn : n < (k - c).toNat) : max 0 (min (colAt c k n + 1) (w - 1)) = colAt c k (n + 1) ∧ rowAt r c i k (n + 1) = rowAt r c i k n := by
  unfold rowAt colAt
  omega
theorem go_left {r c i k w : Int} {n : Nat} (k1 : k < w) (k0 : 0 ≤ k) (b6 : 0 ≤ c) (b7 : c < w) (hn : (k - c).toNat ≤ n) (hm : n < (k - c).toNat + (c - k).toNat) : max 0 (min (colAt c k n + -1) (w - 1)) = colAt c k (n + 1) ∧ rowAt r c i k (n + 1) = rowAt r c i k n := by
  unfold rowAt colAt
  omega
theorem go_down {r c i k h : Int} {n : Nat} (i1 : i < h) (i0 : 0 ≤ i) (b4 : 0 ≤ r) (b5 : r < h) (hn : (k - c).toNat + (c - k).toNat ≤ n) (hm : n < (k - c).toNat + (c - k).toNat + (i - r).toNat) : max 0 (min (rowAt r c i k n - -1) (h - 1)) = rowAt r c i k (n + 1) ∧ colAt c k (n + 1) = colAt c k n := by
  unfold rowAt colAt
  omega
theorem go_up {r c i k h : Int} {n : Nat} (i1 : i < h) (i0 : 0 ≤ i) (b4 : 0 ≤ r) (b5 : r < h) (hn : (k - c).toNat + (c - k).toNat + (i - r).toNat ≤ n) (hm : n < (k - c).toNat + (c - k).toNat + (i - r).toNat + (r - i).toNat) : max 0 (min (rowAt r c i k n - 1) (h - 1)) = rowAt r c i k (n + 1) ∧ colAt c k (n + 1) = colAt c k n := by
  unfold rowAt colAt
  omega
theorem at_start (r c i k : Int) : rowAt r c i k 0 = r ∧ colAt c k 0 = c := by
  unfold rowAt colAt
  omega
theorem at_end (r c i k : Int) : rowAt r c i k (keyN r c i k).length = i ∧ colAt c k (keyN r c i k).length = k := by
  rw [keyN_len]
  unfold rowAt colAt
  omega
theorem n_eqs : ([76, 101, 102, 116] = ([82, 105, 103, 104, 116] : List UInt8)) = False ∧ (([68, 111, 119, 110] : List UInt8) = [82, 105, 103, 104, 116]) = False ∧ (([68, 111, 119, 110] : List UInt8) = [76, 101, 102, 116]) = False ∧ (([85, 112] : List UInt8) = [82, 105, 103, 104, 116]) = False ∧ (([85, 112] : List UInt8) = [76, 101, 102, 116]) = False ∧ (([85, 112] : List UInt8) = [68, 111, 119, 110]) = False ∧ (([68, 111, 119, 110] : List UInt8) = [85, 112]) = False := by
  refine ⟨?_, ?_, ?_, ?_, ?_, ?_, ?_⟩ <;> exact eq_false (by decide)
def vuuP (ts : List TV) : Prop := ∃ (w h : Int) (rows : List (List Gl)) (r c : Int) (vis : Bool) (x y : Int), ts = [.agg [.int w, .int h, rowsT rows, .int r, .int c, .bool vis], .int x, .int y] ∧ 0 ≤ x ∧ x ≤ 255 ∧ 0 ≤ y ∧ y ≤ 255
theorem vuuP_of {t0 t1 t2 : TV} (h0 : OkA true [.int .i64, .int .i64, .slice false [.slice true [.str, .bool, .int .i64]], .int .i64, .int .i64, .bool] t0) (h1 : OkA false [.int .u8] t1) (h2 : OkA false [.int .u8] t2) : vuuP [t0, t1, t2] := by
  obtain ⟨w, h, rows, r, c, vis, rfl⟩ := h0.view
  obtain ⟨x, rfl, hx, hx'⟩ := h1.int
  obtain ⟨y, rfl, hy, hy'⟩ := h2.int
  exact ⟨w, h, rows, r, c, vis, x, y, rfl, hx, hx', hy, hy'⟩
theorem lawMoves_c (k : Nat) : Contract Tryd.prog (mkEnv globT []) gtabU (qdm k) (trueL vuuP).pre (trueL vuuP).post := Contract.env (Γ := mkEnv globT [greatL, rckL, pkeysL, prightL, pupL, awkL]) (qgx (fun _ => rfl) (fun s hs => by
    simp only [cx_law54_DisplayMoves, List.mem_cons, List.not_mem_nil, or_false] at hs
    rcases hs with rfl | rfl | rfl | rfl | rfl | rfl
    · exact Contract.inEnv rfl (great_c 0) rfl
    · exact Contract.inEnv rfl (rck_c 1) rfl
    · exact Contract.inEnv rfl (pkeys_c 2) rfl
    · exact Contract.inEnv rfl (pright_c 3) rfl
    · exact Contract.inEnv rfl (pup_c 4) rfl
    · exact Contract.inEnv rfl (awk_c 5) rfl) k (by
  rintro ts hl ⟨w, h, rows, r, c, vis, x, y, rfl, a0, a1, b0, b1⟩
  unfold tr_law54_DisplayMoves
  cases hg : qby w rows with
  | true =>
    simp only [Tree.den, E.den, P1.den, P2.den, P3.den, qa, qb, qc, qd, qe, qf, qg, qh, zac, zab, zad, zaa, zae, TV.cell, zah, zai, zag, zaf, qi, qj, qk, ql, qm, qn, ne_eq, qo, qp, forall_eq, qs, qt, Int.reduceToNat, qu, exists_eq_left', great_all, awk_all, hg]
    exact ⟨great_pre trivial, fun _ => ⟨awk_pre, rfl⟩, False.elim⟩
  | false =>
    have hs := (small_view hg).1
    simp only [Tree.den, E.den, P1.den, P2.den, P3.den, qa, qb, qc, qd, qe, qf, qg, qh, zac, zab, zad, zaa, zae, TV.cell, zah, zai, zag, zaf, qi, qj, qk, ql, qm, qn, ne_eq, qo, qp, forall_eq, qs, qt, Int.reduceToNat, qu, exists_eq_left', great_all, awk_all, hg, rck_all, pkeys_all, true_implies, not_true_eq_false, false_implies, and_true, true_and]
    refine ⟨great_pre trivial, rck_pre hs, fun _ => ⟨awk_pre, rfl⟩, fun hc => ?_⟩
    have V := proper_view hc
    have b1' := V.h1; have b2 := V.h2; have b4 := V.r1; have b5 := V.r2; have b6 := V.c1; have b7 := V.c2; have b8 := V.w2
    have e1 : (IntKind.wrap .i64 x).tmod h = x % h := by rw [wrap_i64 (by omega) (by omega), Int.tmod_eq_emod_of_nonneg a0]
    have e2 : (IntKind.wrap .i64 y).tmod w = y % w := by rw [wrap_i64 (by omega) (by omega), Int.tmod_eq_emod_of_nonneg b0]
    have i0 := Int.emod_nonneg x (show h ≠ 0 by omega)
    have i1 := Int.emod_lt_of_pos x (show 0 < h by omega)
    have k0 := Int.emod_nonneg y (show w ≠ 0 by omega)
    have k1 := Int.emod_lt_of_pos y (show 0 < w by omega)
    rw [e1, e2]
    generalize x % h = i at *
    generalize y % w = j at *
    have hk : keysV w h rows r c i j = keyN r c i j := by unfold keysV; rw [if_pos ⟨hc, i0, i1, k0, k1⟩]
    rw [hk, qh3]
    refine ⟨by omega, by omega, pkeys_pre hs, MvI r c i j, Mvm r c i j, ⟨0, by rw [(at_start r c i j).1, (at_start r c i j).2]; rfl, by omega⟩, ?_⟩
    rintro xs _ ⟨n, rfl, hn⟩
    have hlen := keyN_len r c i j
    have hat := at_in b4 b5 b6 b7 i0 i1 k0 k1 n
    by_cases hlt : n < (keyN r c i j).length
    · have hget := keysT_get hlt
      have e3 : IntKind.wrap .i64 ((n : Int) + 1) = ((n + 1 : Nat) : Int) := by rw [wrap_i64 (by omega) (by omega)]; omega
      have hR := pright_pre (r := rowAt r c i j n) (c := colAt c j n) (n := 1) (w := w) (h := h) (b := h) ⟨by omega, by omega, by omega, by omega, by omega, by omega, by omega, by omega, by omega, by omega, by omega⟩
      have hL := pright_pre (r := rowAt r c i j n) (c := colAt c j n) (n := -1) (w := w) (h := h) (b := h) ⟨by omega, by omega, by omega, by omega, by omega, by omega, by omega, by omega, by omega, by omega, by omega⟩
      have hU := pup_pre (r := rowAt r c i j n) (c := colAt c j n) (n := 1) (w := w) (h := h) (b := h) ⟨by omega, by omega, by omega, by omega, by omega, by omega, by omega, by omega, by omega, by omega, by omega⟩
      have hD := pup_pre (r := rowAt r c i j n) (c := colAt c j n) (n := -1) (w := w) (h := h) (b := h) ⟨by omega, by omega, by omega, by omega, by omega, by omega, by omega, by omega, by omega, by omega, by omega⟩
      have hq := n_eqs
      rcases keyN_get r c i j n hlt with ⟨h1, hk1⟩ | ⟨h1, h2, hk1⟩ | ⟨h1, h2, hk1⟩ | ⟨h1, h2, hk1⟩
      · rw [hk1] at hget
        have hgo := go_right (r := r) (i := i) k1 k0 b6 h1
        simp only [Tree.den, E.den, P1.den, P2.den, P3.den, qa, qb, qc, qd, qe, qf, qg, qh, zac, zab, zad, zaa, zae, TV.cell, zah, zai, zag, zaf, qi, qj, qk, ql, qm, qn, ne_eq, qo, qp, forall_eq, qs, qt, Int.reduceToNat, qu, exists_eq_left', List.cons_append, List.nil_append, Int.toNat_natCast, hget, hq, if_true, if_false, pright_all, pup_all, e3, mvm_i, hgo.1]
        simp only [true_implies, false_implies, true_and, and_true]
        exact ⟨fun _ => ⟨by omega, by omega, hR, ⟨n + 1, by rw [hgo.2], by omega⟩, by omega⟩, fun hh => absurd hh (by omega)⟩
      · rw [hk1] at hget
        have hgo := go_left (r := r) (i := i) k1 k0 b6 b7 h1 h2
        simp only [Tree.den, E.den, P1.den, P2.den, P3.den, qa, qb, qc, qd, qe, qf, qg, qh, zac, zab, zad, zaa, zae, TV.cell, zah, zai, zag, zaf, qi, qj, qk, ql, qm, qn, ne_eq, qo, qp, forall_eq, qs, qt, Int.reduceToNat, qu, exists_eq_left', List.cons_append, List.nil_append, Int.toNat_natCast, hget, hq, if_true, if_false, pright_all, pup_all, e3, mvm_i, hgo.1]
        simp only [true_implies, false_implies, true_and, and_true]
        exact ⟨fun _ => ⟨by omega, by omega, hL, ⟨n + 1, by rw [hgo.2], by omega⟩, by omega⟩, fun hh => absurd hh (by omega)⟩
      · rw [hk1] at hget
        have hgo := go_down i1 i0 b4 b5 h1 h2
        simp only [Tree.den, E.den, P1.den, P2.den, P3.den, qa, qb, qc, qd, qe, qf, qg, qh, zac, zab, zad, zaa, zae, TV.cell, zah, zai, zag, zaf, qi, qj, qk, ql, qm, qn, ne_eq, qo, qp, forall_eq, qs, qt, Int.reduceToNat, qu, exists_eq_left', List.cons_append, List.nil_append, Int.toNat_natCast, hget, hq, if_true, if_false, pright_all, pup_all, e3, mvm_i, hgo.1]
        simp only [true_implies, false_implies, true_and, and_true]
        exact ⟨fun _ => ⟨by omega, by omega, hD, ⟨n + 1, by rw [hgo.2], by omega⟩, by omega⟩, fun hh => absurd hh (by omega)⟩
      · rw [hk1] at hget
        have hgo := go_up i1 i0 b4 b5 h1 h2
        simp only [Tree.den, E.den, P1.den, P2.den, P3.den, qa, qb, qc, qd, qe, qf, qg, qh, zac, zab, zad, zaa, zae, TV.cell, zah, zai, zag, zaf, qi, qj, qk, ql, qm, qn, ne_eq, qo, qp, forall_eq, qs, qt, Int.reduceToNat, qu, exists_eq_left', List.cons_append, List.nil_append, Int.toNat_natCast, hget, hq, if_true, if_false, pright_all, pup_all, e3, mvm_i, hgo.1]
        simp only [true_implies, false_implies, true_and, and_true]
        exact ⟨fun _ => ⟨by omega, by omega, hU, ⟨n + 1, by rw [hgo.2], by omega⟩, by omega⟩, fun hh => absurd hh (by omega)⟩
    · have hend := at_end r c i j
      have hn' : n = (keyN r c i j).length := by omega
      rw [← hn'] at hend
      have e3 : IntKind.wrap .i64 (i - r) = i - r := wrap_i64 (by omega) (by omega)
      have e4 : IntKind.wrap .i64 (r - i) = r - i := wrap_i64 (by omega) (by omega)
      have e5 : IntKind.wrap .i64 (j - c) = j - c := wrap_i64 (by omega) (by omega)
      have e6 : IntKind.wrap .i64 (c - j) = c - j := wrap_i64 (by omega) (by omega)
      have e7 : IntKind.wrap .i64 (max (i - r) (r - i) + max (j - c) (c - j)) = max (i - r) (r - i) + max (j - c) (c - j) := wrap_i64 (by omega) (by omega)
      simp only [Tree.den, E.den, P1.den, P2.den, P3.den, qa, qb, qc, qd, qe, qf, qg, qh, zac, zab, zad, zaa, zae, TV.cell, zah, zai, zag, zaf, qi, qj, qk, ql, qm, qn, ne_eq, qo, qp, forall_eq, qs, qt, Int.reduceToNat, qu, exists_eq_left', List.cons_append, List.nil_append, hend.1, hend.2, if_true, e3, e4, e5, e6, e7]
      exact ⟨fun hh => absurd hh (by omega), fun _ => ⟨fun _ => ⟨fun _ => ⟨awk_pre, rfl⟩, fun hh => absurd hh (by omega)⟩, fun hh => absurd hh (by decide)⟩⟩)) rfl
end Go.Proofs.YtgdlkhemopildaaDoor

