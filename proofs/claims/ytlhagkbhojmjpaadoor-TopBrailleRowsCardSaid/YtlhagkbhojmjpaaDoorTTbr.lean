/- Written by this repo's own program out of its texts. -/
import Derived.Test.YtlhagkbhojmjpaaDoorTWiw
import Derived.Test.YtlhagkbhojmjpaaDoorTLie
namespace Go.Proofs.YtlhagkbhojmjpaaDoor
set_option linter.unusedSimpArgs false
set_option linter.unusedVariables false
set_option linter.unusedSectionVars false
def fxR : List Gl := [⟨[97], false, 0⟩, ⟨[98], false, 0⟩, ⟨[99], false, 0⟩]
theorem fx_gl : glErr fxR = 0 := by decide +kernel
theorem fx_vg : VG fxR := fun g hg => qib (glErr_zero fx_gl g hg)
theorem fx_row : qbi 5 fxR = 0 := qbn fx_gl (by decide) (fun h => absurd (congrArg Gl.s h.2) (by decide))
theorem fx_check : qbo 5 1 [fxR] 0 0 = 0 := by
  unfold qbo
  rw [if_neg (by decide), if_neg (by decide), if_neg (by decide), if_neg (by decide), if_neg (by decide), if_neg (by decide), qbp, if_pos fx_row]
  rfl
theorem fx_small : SmallV [fxR] := ⟨by decide, fun l hl => by
  simp only [List.mem_singleton] at hl
  subst hl
  exact ⟨by decide, by decide⟩⟩
theorem fx_c : brC fxR false = [1, 3, 9] := by decide +kernel
theorem fx_s : brS fxR false = [0, 1, 2, 3] := by decide +kernel
theorem fx_pl : PL [1, 3, 9] [0, 1, 2, 3] := by
  have := br_PL fx_vg false
  rwa [fx_c, fx_s] at this
theorem fx_cur : curV (rw' [fxR] 0) 0 false = 0 := by
  unfold curV
  rw [show rw' [fxR] 0 = fxR from rfl, fx_c, fx_s, show idxG fxR 0 = 0 from by decide]
  unfold zdk
  rw [if_neg (by rintro (h | h | h) <;> first | exact h fx_pl | omega), if_neg (by decide)]
  decide
theorem fx_proper : qhx 2 0 0 5 1 [fxR] 0 0 = true := properD_iff.2 ⟨by decide, by decide, by decide, by decide, by decide, by decide, fx_check⟩
theorem fx_show : showT 2 0 0 5 1 [fxR] 0 0 true false = .agg [ints [1, 3], .int 0] := by
  unfold showT
  rw [if_pos fx_proper, fx_cur, show rw' [fxR] (min 0 (1 - 1)) = fxR from rfl, fx_c]
  rfl
theorem fx_rows : TV.list [TV.list [.agg [.str [97], .bool false, .int 0], .agg [.str [98], .bool false, .int 0], .agg [.str [99], .bool false, .int 0]]] = rowsT [fxR] := rfl
theorem new_pos {n : Int} (h1 : 1 ≤ n) (h2 : n ≤ 80) : newT n = .agg [.agg [.int n, .int 0, .int 0, .bool true], .int 0] := by
  unfold newT
  rw [if_neg (by omega)]
def pvblL : Law := ⟨fun ts => ∃ (a : Int) (b : Int), ts = [.int a, .int b] ∧ (a = 5 ∧ b = 1), fun ts z₀ => ∀ (a : Int) (b : Int), ts = [.int a, .int b] → z₀ = .agg [.agg [.int 5, .int 1, .list [.list []], .int 0, .int 0, .bool true], .int 0]⟩
theorem pvbl_pre {a : Int} {b : Int} (h : a = 5 ∧ b = 1) : pvblL.pre [.int a, .int b] := ⟨a, b, rfl, h⟩
theorem pvbl_fin {a : Int} {b : Int} {z₀ : TV} (h : z₀ = .agg [.agg [.int 5, .int 1, .list [.list []], .int 0, .int 0, .bool true], .int 0]) : pvblL.post [.int a, .int b] z₀ := fun a₁ b₁ e => by
  simp only [List.cons.injEq, TV.str.injEq, TV.int.injEq, TV.bool.injEq, TV.agg.injEq, TV.list.injEq, zat, and_true, true_and, and_assoc] at e; obtain ⟨rfl, rfl⟩ := e
  exact h
theorem pvbl_all {a : Int} {b : Int} {Q : TV → Prop} : (∀ z₀, pvblL.post [.int a, .int b] z₀ → Q z₀) ↔ Q (.agg [.agg [.int 5, .int 1, .list [.list []], .int 0, .int 0, .bool true], .int 0]) := ⟨fun h => h _ (pvbl_fin rfl), fun h z₀ hr => by rw [hr _ _ rfl]; exact h⟩
theorem pvbl_c (k : Nat) : Contract Tryd.prog (mkEnv globT []) gtabU (qjp k) pvblL.pre pvblL.post := Contract.env (Γ := mkEnv globT [psizL]) (contract_view_Blank (fun _ => rfl) (fun s hs => by
    simp only [cx_view_Blank, List.mem_cons, List.not_mem_nil, or_false] at hs
    rcases hs with rfl
    · exact Contract.inEnv rfl (psiz_c 0) rfl) k (by
  rintro ts hl ⟨a, b, rfl, hp⟩
  have hfin : ∀ z₀ : TV, z₀ = .agg [.agg [.int 5, .int 1, .list [.list []], .int 0, .int 0, .bool true], .int 0] → pvblL.post [.int a, .int b] z₀ := fun z₀ hz₀ => pvbl_fin hz₀
  generalize pvblL.post [.int a, .int b] = R at hfin ⊢
  unfold tr_view_Blank
  obtain ⟨rfl, rfl⟩ := hp
  have e : sizB 5 1 = true := by decide
  simp only [Tree.den, E.den, P1.den, P2.den, P3.den, qa, qb, qc, qd, qe, qf, qg, qh, zac, zab, zad, zaa, zae, TV.cell, zah, zai, zag, zaf, qi, qj, qk, ql, qm, qn, ne_eq, qo, qp, forall_eq, qs, qt, Int.reduceToNat, qu, exists_eq_left', psiz_all, e]
  exact ⟨psiz_pre trivial, fun h => absurd h (by decide), fun _ => ⟨by decide, by decide, by decide, hfin _ rfl⟩⟩)) rfl
def feltL : Law := ⟨fun ts => ts = [], fun ts z₀ => ts = [] → z₀ = .bool true⟩
theorem felt_pre : feltL.pre [] := rfl
theorem felt_fin {z₀ : TV} (h : z₀ = .bool true) : feltL.post [] z₀ := fun _ => h
theorem felt_all {Q : TV → Prop} : (∀ z₀, feltL.post [] z₀ → Q z₀) ↔ Q (.bool true) := ⟨fun h => h _ fun _ => rfl, fun h z₀ hr => by rw [hr rfl]; exact h⟩
theorem felt_c (k : Nat) : Contract Tryd.prog (mkEnv globT []) gtabU (qi0 k) feltL.pre feltL.post := Contract.env (Γ := mkEnv globT [pshowL, pnewL, pvblL]) (qjs (fun _ => rfl) (fun s hs => by
    simp only [cx_narratortop_top54Felt, List.mem_cons, List.not_mem_nil, or_false] at hs
    rcases hs with rfl | rfl | rfl
    · exact Contract.inEnv rfl (pshow_c 0) rfl
    · exact Contract.inEnv rfl (pnew_c 1) rfl
    · exact Contract.inEnv rfl (pvbl_c 2) rfl) k (by
  rintro ts hl rfl
  have hfin : ∀ z₀ : TV, z₀ = .bool true → feltL.post [] z₀ := fun z₀ hz₀ => felt_fin hz₀
  generalize feltL.post [] = R at hfin ⊢
  unfold tr_narratortop_top54Felt
  simp only [Tree.den, E.den, P1.den, P2.den, P3.den, qa, qb, qc, qd, qe, qf, qg, qh, zac, zab, zad, zaa, zae, TV.cell, zah, zai, zag, zaf, qi, qj, qk, ql, qm, qn, ne_eq, qo, qp, forall_eq, qs, qt, Int.reduceToNat, qu, exists_eq_left', pvbl_all, pnew_all, new_pos (show (1 : Int) ≤ 2 by decide) (by decide), fx_rows, pshow_all, fx_show]
  exact ⟨pvbl_pre ⟨rfl, rfl⟩, fun hh => absurd trivial hh, fun _ => ⟨fun hh => absurd rfl hh, fun _ => ⟨pnew_pre trivial, pshow_pre fx_small, fun _ => ⟨fun _ => ⟨fun _ => ⟨by decide, by decide, hfin _ rfl⟩, fun hh => absurd trivial hh⟩, fun hh => absurd rfl hh⟩, fun hh => absurd trivial hh⟩⟩⟩)) rfl
noncomputable def qjv (w h : Int) (rows : List (List Gl)) (r c : Int) : Bool := !qby w rows && (decide (rows.length ≤ 8) && (decide (w ≤ 20) && decide (qbo w h rows r c = 0)))
def smvL : Law := ⟨fun ts => ∃ (w : Int) (h : Int) (rows : List (List Gl)) (r : Int) (c : Int) (vis : Bool), ts = [.agg [.int w, .int h, rowsT rows, .int r, .int c, .bool vis]] ∧ (True), fun ts z₀ => ∀ (w : Int) (h : Int) (rows : List (List Gl)) (r : Int) (c : Int) (vis : Bool), ts = [.agg [.int w, .int h, rowsT rows, .int r, .int c, .bool vis]] → z₀ = .bool (qjv w h rows r c)⟩
theorem smv_pre {w : Int} {h : Int} {rows : List (List Gl)} {r : Int} {c : Int} {vis : Bool} (h₀ : True) : smvL.pre [.agg [.int w, .int h, rowsT rows, .int r, .int c, .bool vis]] := ⟨w, h, rows, r, c, vis, rfl, h₀⟩
theorem smv_fin {w : Int} {h : Int} {rows : List (List Gl)} {r : Int} {c : Int} {vis : Bool} {z₀ : TV} (h₀ : z₀ = .bool (qjv w h rows r c)) : smvL.post [.agg [.int w, .int h, rowsT rows, .int r, .int c, .bool vis]] z₀ := fun w₁ h₁ rows₁ r₁ c₁ vis₁ e => by
  simp only [List.cons.injEq, TV.str.injEq, TV.int.injEq, TV.bool.injEq, TV.agg.injEq, TV.list.injEq, zat, and_true, true_and, and_assoc, rowsT_eq] at e; obtain ⟨rfl, rfl, rfl, rfl, rfl, rfl⟩ := e
  exact h₀
theorem smv_all {w : Int} {h : Int} {rows : List (List Gl)} {r : Int} {c : Int} {vis : Bool} {Q : TV → Prop} : (∀ z₀, smvL.post [.agg [.int w, .int h, rowsT rows, .int r, .int c, .bool vis]] z₀ → Q z₀) ↔ Q (.bool (qjv w h rows r c)) := ⟨fun h₀ => h₀ _ (smv_fin rfl), fun h₀ z₀ hr => by rw [hr _ _ _ _ _ _ rfl]; exact h₀⟩
theorem smv_c (k : Nat) : Contract Tryd.prog (mkEnv globT []) gtabU (qiz k) smvL.pre smvL.post := Contract.env (Γ := mkEnv globT [greatL, rckL]) (qjq (fun _ => rfl) (fun s hs => by
    simp only [cx_narratortop_top42Small, List.mem_cons, List.not_mem_nil, or_false] at hs
    rcases hs with rfl | rfl
    · exact Contract.inEnv rfl (great_c 0) rfl
    · exact Contract.inEnv rfl (rck_c 1) rfl) k (by
  rintro ts hl ⟨w, h, rows, r, c, vis, rfl, hp⟩
  have hfin : ∀ z₀ : TV, z₀ = .bool (qjv w h rows r c) → smvL.post [.agg [.int w, .int h, rowsT rows, .int r, .int c, .bool vis]] z₀ := fun z₀ hz₀ => smv_fin hz₀
  generalize smvL.post [.agg [.int w, .int h, rowsT rows, .int r, .int c, .bool vis]] = R at hfin ⊢
  unfold tr_narratortop_top42Small
  unfold qjv at hfin
  cases hg : qby w rows with
  | true =>
    simp only [Tree.den, E.den, P1.den, P2.den, P3.den, qa, qb, qc, qd, qe, qf, qg, qh, zac, zab, zad, zaa, zae, TV.cell, zah, zai, zag, zaf, qi, qj, qk, ql, qm, qn, ne_eq, qo, qp, forall_eq, qs, qt, Int.reduceToNat, qu, exists_eq_left', great_all, hg]
    exact ⟨great_pre trivial, False.elim, fun _ => hfin _ (by rw [hg]; rfl)⟩
  | false =>
    have hs := (small_view hg).1
    simp only [Tree.den, E.den, P1.den, P2.den, P3.den, qa, qb, qc, qd, qe, qf, qg, qh, zac, zab, zad, zaa, zae, TV.cell, zah, zai, zag, zaf, qi, qj, qk, ql, qm, qn, ne_eq, qo, qp, forall_eq, qs, qt, Int.reduceToNat, qu, exists_eq_left', great_all, hg, qbj, rck_all]
    rw [hg] at hfin
    refine ⟨great_pre trivial, fun _ => ⟨fun h1 => ⟨fun h2 => ⟨rck_pre hs, hfin _ ?_⟩, fun h2 => hfin _ ?_⟩, fun h1 => hfin _ ?_⟩, fun h => absurd h (by simp)⟩
    · rw [decide_eq_true (show rows.length ≤ 8 by omega), decide_eq_true h2, Bool.not_false, Bool.true_and, Bool.true_and, Bool.true_and]
      congr 1
    · rw [decide_eq_false h2]; simp
    · rw [decide_eq_false (show ¬ rows.length ≤ 8 by omega)]; simp)) rfl
theorem un_snoc (l : List Gl) (s : List UInt8) (b : Bool) : TV.list (l.map glT ++ [.agg [.str s, .bool b, .int 0]]) = glsT (l ++ [⟨s, b, 0⟩]) := by simp [glsT, glT]
theorem un_take {l : List Gl} {i : Nat} (h : i < l.length) : zyc (l.take (i + 1)) = zyc (l.take i) ++ [⟨(gg l i).s, (gg l i).w, 0⟩] := by
  have e : l.take (i + 1) = l.take i ++ [gg l i] := by
    rw [List.take_add_one, gg, List.getD_eq_getElem?_getD, List.getElem?_eq_getElem h]; rfl
  rw [e]
  simp [zyc]
def UnI (l : List Gl) (xs : List TV) : Prop := ∃ i : Nat, xs = [.int i, glsT (zyc (l.take i))] ∧ i ≤ l.length
def Unm (l : List Gl) (xs : List TV) : Nat := l.length - (xs.getD 0 (.int 0)).asInt.toNat
theorem unm_i (l : List Gl) (i : Nat) (z : TV) : Unm l [.int (i : Int), z] = l.length - i := congrArg (l.length - ·) (Int.toNat_natCast i)
def unstL : Law := ⟨fun ts => ∃ (l : List Gl), ts = [glsT l] ∧ (l.length ≤ 1000000), fun ts z₀ => ∀ (l : List Gl), ts = [glsT l] → z₀ = glsT (zyc l)⟩
theorem unst_pre {l : List Gl} (h : l.length ≤ 1000000) : unstL.pre [glsT l] := ⟨l, rfl, h⟩
theorem unst_fin {l : List Gl} {z₀ : TV} (h : z₀ = glsT (zyc l)) : unstL.post [glsT l] z₀ := fun l₁ e => by
  simp only [List.cons.injEq, TV.str.injEq, TV.int.injEq, TV.bool.injEq, TV.agg.injEq, TV.list.injEq, zat, and_true, true_and, and_assoc, zzx] at e; subst e
  exact h
theorem unst_all {l : List Gl} {Q : TV → Prop} : (∀ z₀, unstL.post [glsT l] z₀ → Q z₀) ↔ Q (glsT (zyc l)) := ⟨fun h => h _ (unst_fin rfl), fun h z₀ hr => by rw [hr _ rfl]; exact h⟩
theorem unst_c (k : Nat) : Contract Tryd.prog (mkEnv globT []) gtabU (qiy k) unstL.pre unstL.post := Contract.env (Γ := mkEnv globT []) (qjo (fun _ => rfl) (fun s hs => by
    cases hs) k (by
  rintro ts hl ⟨l, rfl, hp⟩
  have hfin : ∀ z₀ : TV, z₀ = glsT (zyc l) → unstL.post [glsT l] z₀ := fun z₀ hz₀ => unst_fin hz₀
  generalize unstL.post [glsT l] = R at hfin ⊢
  unfold tr_narratortop_top54Unstyled
  simp only [Tree.den, E.den, P1.den, P2.den, P3.den, qa, qb, qc, qd, qe, qf, qg, qh, zac, zab, zad, zaa, zae, TV.cell, zah, zai, zag, zaf, qi, qj, qk, ql, qm, qn, ne_eq, qo, qp, forall_eq, qs, qt, Int.reduceToNat, qu, exists_eq_left']
  refine ⟨UnI l, Unm l, ⟨0, rfl, by omega⟩, ?_⟩
  rintro xs _ ⟨i, rfl, hi⟩
  have hpl : (zyc (l.take i)).length ≤ l.length := by unfold zyc; rw [List.length_map, List.length_take]; omega
  by_cases hil : i < l.length
  · have e64 : IntKind.wrap .i64 ((i : Int) + 1) = ((i + 1 : Nat) : Int) := by rw [wrap_i64 (by omega) (by omega)]; omega
    simp only [Tree.den, E.den, P1.den, P2.den, P3.den, qa, qb, qc, qd, qe, qf, qg, qh, zac, zab, zad, zaa, zae, TV.cell, zah, zai, zag, zaf, qi, qj, qk, ql, qm, qn, ne_eq, qo, qp, forall_eq, qs, qt, Int.reduceToNat, qu, exists_eq_left', List.cons_append, List.nil_append, Int.toNat_natCast, e64, zbo, zaw, zi7 hil, glT, un_snoc, unm_i, List.length_append, List.length_map]
    exact ⟨fun _ => ⟨by omega, by omega, by omega, ⟨i + 1, by rw [un_take hil], by omega⟩, by omega⟩, fun hh => absurd hh (by omega)⟩
  · have : i = l.length := by omega
    subst this
    rw [List.take_of_length_le (Nat.le_refl _)] at *
    simp only [Tree.den, E.den, P1.den, P2.den, P3.den, qa, qb, qc, qd, qe, qf, qg, qh, zac, zab, zad, zaa, zae, TV.cell, zah, zai, zag, zaf, qi, qj, qk, ql, qm, qn, ne_eq, qo, qp, forall_eq, qs, qt, Int.reduceToNat, qu, exists_eq_left', List.cons_append, List.nil_append, zbo]
    exact ⟨fun hh => absurd hh (by omega), fun _ => hfin _ rfl⟩)) rfl
def UsI (n : Nat) (xs : List TV) : Prop := ∃ i : Nat, xs = [.int i] ∧ i ≤ n
def Usm (n : Nat) (xs : List TV) : Nat := n - (xs.getD 0 (.int 0)).asInt.toNat
theorem tsm_i (n i : Nat) : Usm n [.int (i : Int)] = n - i := congrArg (n - ·) (Int.toNat_natCast i)
def tsmL : Law := ⟨fun ts => ∃ (a : List Gl) (b : List Gl), ts = [glsT a, glsT b] ∧ (a.length ≤ 1000000 ∧ a = b), fun ts z₀ => ∀ (a : List Gl) (b : List Gl), ts = [glsT a, glsT b] → z₀ = .bool true⟩
theorem tsm_pre {a : List Gl} {b : List Gl} (h : a.length ≤ 1000000 ∧ a = b) : tsmL.pre [glsT a, glsT b] := ⟨a, b, rfl, h⟩
theorem tsm_fin {a : List Gl} {b : List Gl} {z₀ : TV} (h : z₀ = .bool true) : tsmL.post [glsT a, glsT b] z₀ := fun a₁ b₁ e => by
  simp only [List.cons.injEq, TV.str.injEq, TV.int.injEq, TV.bool.injEq, TV.agg.injEq, TV.list.injEq, zat, and_true, true_and, and_assoc, zzx] at e; obtain ⟨rfl, rfl⟩ := e
  exact h
theorem tsm_all {a : List Gl} {b : List Gl} {Q : TV → Prop} : (∀ z₀, tsmL.post [glsT a, glsT b] z₀ → Q z₀) ↔ Q (.bool true) := ⟨fun h => h _ (tsm_fin rfl), fun h z₀ hr => by rw [hr _ _ rfl]; exact h⟩
theorem tsm_c (k : Nat) : Contract Tryd.prog (mkEnv globT []) gtabU (qi1 k) tsmL.pre tsmL.post := Contract.env (Γ := mkEnv globT []) (qjr (fun _ => rfl) (fun s hs => by
    cases hs) k (by
  rintro ts hl ⟨a, b, rfl, hp⟩
  have hfin : ∀ z₀ : TV, z₀ = .bool true → tsmL.post [glsT a, glsT b] z₀ := fun z₀ hz₀ => tsm_fin hz₀
  generalize tsmL.post [glsT a, glsT b] = R at hfin ⊢
  unfold tr_narratortop_top54Same
  obtain ⟨hl, rfl⟩ := hp
  simp only [Tree.den, E.den, P1.den, P2.den, P3.den, qa, qb, qc, qd, qe, qf, qg, qh, zac, zab, zad, zaa, zae, TV.cell, zah, zai, zag, zaf, qi, qj, qk, ql, qm, qn, ne_eq, qo, qp, forall_eq, qs, qt, Int.reduceToNat, qu, exists_eq_left', zbo]
  refine ⟨fun hh => absurd trivial hh, fun _ => ⟨UsI a.length, Usm a.length, ⟨0, rfl, by omega⟩, ?_⟩⟩
  rintro xs _ ⟨i, rfl, hi⟩
  by_cases hil : i < a.length
  · have e64 : IntKind.wrap .i64 ((i : Int) + 1) = ((i + 1 : Nat) : Int) := by rw [wrap_i64 (by omega) (by omega)]; omega
    simp only [Tree.den, E.den, P1.den, P2.den, P3.den, qa, qb, qc, qd, qe, qf, qg, qh, zac, zab, zad, zaa, zae, TV.cell, zah, zai, zag, zaf, qi, qj, qk, ql, qm, qn, ne_eq, qo, qp, forall_eq, qs, qt, Int.reduceToNat, qu, exists_eq_left', List.cons_append, List.nil_append, Int.toNat_natCast, e64, zbo, zaw, zi7 hil, glT, tsm_i, if_true]
    exact ⟨fun _ => ⟨by omega, by omega, by omega, by omega, fun hh => absurd hh (by simp), fun _ => ⟨⟨i + 1, rfl, by omega⟩, by omega⟩⟩, fun hh => absurd hh (by omega)⟩
  · simp only [Tree.den, E.den, P1.den, P2.den, P3.den, qa, qb, qc, qd, qe, qf, qg, qh, zac, zab, zad, zaa, zae, TV.cell, zah, zai, zag, zaf, qi, qj, qk, ql, qm, qn, ne_eq, qo, qp, forall_eq, qs, qt, Int.reduceToNat, qu, exists_eq_left', List.cons_append, List.nil_append]
    exact ⟨fun hh => absurd hh (by omega), fun _ => hfin _ rfl⟩)) rfl
def padC (C : List Int) (m : Nat) : List Int := (List.range m).map fun q => C.getD q 0
theorem padC_len (C : List Int) (m : Nat) : (padC C m).length = m := by simp [padC]
theorem show_map (C : List Int) (sz dl : Nat) : showC C sz dl = (List.range sz).map fun q => C.getD (dl + q) 0 := by
  apply List.ext_getElem
  · rw [showC_len]; simp
  · intro i h1 h2
    have h3 : i < sz := by rw [showC_len] at h1; exact h1
    have := showC_get (c := C) (sz := sz) (dl := dl) (i := i) h3
    rw [List.getD_eq_getElem?_getD, List.getElem?_eq_getElem h1] at this
    simpa using this
theorem padC_show (C : List Int) (sz j : Nat) : padC C (j * sz) ++ showC C sz (j * sz) = padC C ((j + 1) * sz) := by
  rw [show_map, padC, padC, Nat.add_mul, Nat.one_mul, List.range_add, List.map_append, List.map_map]
  rfl
theorem padC_take {C : List Int} {m : Nat} (h : C.length ≤ m) : (padC C m).take C.length = C := by
  apply List.ext_getElem
  · rw [List.length_take, padC_len]; omega
  · intro i h1 h2
    rw [List.getElem_take]
    simp [padC, List.getD_eq_getElem?_getD, List.getElem?_eq_getElem h2]
theorem glyZ_zero {g : Gl} (h : glyZ g = 0) : zbf g.s = 0 ∧ g.w = (zc7 g.s == 2) := by
  unfold glyZ at h
  split at h
  · omega
  · rename_i h1
    split at h
    · omega
    · rename_i h2
      exact ⟨Classical.byContradiction h1, Classical.byContradiction fun e => h2 (.inl e)⟩
def ToI (n sz : Nat) (xs : List TV) : Prop := ∃ (i : Nat) (dr dl : Int) (df : Bool), xs = [.int i, .int sz, .int dr, .int dl, .bool df] ∧ i ≤ n ∧ (i < n → dr = i ∧ dl = 0)
def TiI (C : List Int) (i n sz : Nat) (xs : List TV) : Prop := ∃ (j : Nat) (dr dl : Int) (df : Bool), xs = [.bool (decide (j = 0)), .int sz, .int dr, .int dl, .bool df, ints (padC C (j * sz))] ∧ j ≤ cntW sz C.length ∧ (j < cntW sz C.length → dr = i ∧ dl = (j * sz : Nat)) ∧ (j = cntW sz C.length → i + 1 < n → dr = (i + 1 : Nat) ∧ dl = 0)
def Tim (C : List Int) (xs : List TV) : Nat := C.length + 1 - (xs.getD 5 (.int 0)).asList.length
theorem tim_i (C l : List Int) (a b x y z : TV) : Tim C [a, b, x, y, z, ints l] = C.length + 1 - l.length := by
  show C.length + 1 - (ints l).asList.length = _
  rw [ints, TV.asList, List.length_map]
theorem cover {sz n : Nat} (hs : 1 ≤ sz) : n ≤ cntW sz n * sz := by
  unfold cntW
  have h1 := Nat.div_add_mod (n - 1) sz
  have h2 := Nat.mod_lt (n - 1) (show sz > 0 by omega)
  rw [Nat.add_mul, Nat.one_mul, Nat.mul_comm]
  omega
def vubP (ts : List TV) : Prop := ∃ (w h : Int) (rows : List (List Gl)) (r c : Int) (vis : Bool) (x : Int) (k : Bool), ts = [.agg [.int w, .int h, rowsT rows, .int r, .int c, .bool vis], .int x, .bool k] ∧ 0 ≤ x ∧ x ≤ 255
theorem vubP_of {t0 t1 t2 : TV} (h0 : OkA true [.int .i64, .int .i64, .slice false [.slice true [.str, .bool, .int .i64]], .int .i64, .int .i64, .bool] t0) (h1 : OkA false [.int .u8] t1) (h2 : OkA false [.bool] t2) : vubP [t0, t1, t2] := by
  obtain ⟨w, h, rows, r, c, vis, rfl⟩ := h0.view
  obtain ⟨x, rfl, hx, hx'⟩ := h1.int
  obtain ⟨k, rfl⟩ := h2.bool
  exact ⟨w, h, rows, r, c, vis, x, k, rfl, hx, hx'⟩
theorem lawRows_c (k : Nat) : Contract Tryd.prog (mkEnv globT []) gtabU (qi8 k) (trueL vubP).pre (trueL vubP).post := Contract.env (Γ := mkEnv globT [ofL, glsL, pshowL, pnewL, ppanL, smvL, feltL, unstL, tsmL]) (qjn (fun _ => rfl) (fun s hs => by
    simp only [cx_narratortop_TopBrailleRows, List.mem_cons, List.not_mem_nil, or_false] at hs
    rcases hs with rfl | rfl | rfl | rfl | rfl | rfl | rfl | rfl | rfl
    · exact Contract.inEnv rfl ((of_c 0).gt za3) rfl
    · exact Contract.inEnv rfl (gls_c 1) rfl
    · exact Contract.inEnv rfl (pshow_c 2) rfl
    · exact Contract.inEnv rfl (pnew_c 3) rfl
    · exact Contract.inEnv rfl (ppan_c 4) rfl
    · exact Contract.inEnv rfl (smv_c 5) rfl
    · exact Contract.inEnv rfl (felt_c 6) rfl
    · exact Contract.inEnv rfl (unst_c 7) rfl
    · exact Contract.inEnv rfl (tsm_c 8) rfl) k (by
  rintro ts hl ⟨w, h, rows, r, c, vis, x, k, rfl, a0, a1⟩
  unfold tr_narratortop_TopBrailleRows
  cases hsm : qjv w h rows r c with
  | false =>
    simp only [Tree.den, E.den, P1.den, P2.den, P3.den, qa, qb, qc, qd, qe, qf, qg, qh, zac, zab, zad, zaa, zae, TV.cell, zah, zai, zag, zaf, qi, qj, qk, ql, qm, qn, ne_eq, qo, qp, forall_eq, qs, qt, Int.reduceToNat, qu, exists_eq_left', smv_all, felt_all, hsm]
    exact ⟨smv_pre trivial, fun _ => ⟨felt_pre, rfl⟩, fun hh => absurd hh (by simp)⟩
  | true =>
    have hsm' := hsm
    unfold qjv at hsm'
    simp only [Bool.and_eq_true, Bool.not_eq_true', decide_eq_true_eq] at hsm'
    obtain ⟨hg, h8, h20, hc⟩ := hsm'
    have hs := (small_view hg).1
    have V := proper_view hc
    have b1 := V.h1; have b2 := V.h2; have b3 := V.len
    obtain ⟨sz, hsz⟩ : ∃ sz : Nat, 1 + x % 80 = (sz : Int) := ⟨(1 + x % 80).toNat, by omega⟩
    have hs1 : 1 ≤ sz := by omega
    have hs2 : sz ≤ 80 := by omega
    have esz : IntKind.wrap .i64 (1 + (IntKind.wrap .i64 x).tmod 80) = (sz : Int) := by
      rw [wrap_i64 (n := x) (by omega) (by omega), Int.tmod_eq_emod_of_nonneg a0, wrap_i64 (by omega) (by omega), hsz]
    have enew := new_pos (n := (sz : Int)) (by omega) (by omega)
    simp only [Tree.den, E.den, P1.den, P2.den, P3.den, qa, qb, qc, qd, qe, qf, qg, qh, zac, zab, zad, zaa, zae, TV.cell, zah, zai, zag, zaf, qi, qj, qk, ql, qm, qn, ne_eq, qo, qp, forall_eq, qs, qt, Int.reduceToNat, qu, exists_eq_left', smv_all, felt_all, hsm, esz, pnew_all, enew, qbj, true_implies, not_true_eq_false, false_implies, and_true, true_and]
    refine ⟨smv_pre trivial, pnew_pre trivial, fun hh => absurd hh (by omega), fun _ => ⟨ToI rows.length sz, Wom rows.length, ⟨0, 0, 0, true, rfl, by omega, fun _ => ⟨rfl, rfl⟩⟩, ?_⟩⟩
    rintro xs _ ⟨i, dr, dl, df, rfl, hi, hd⟩
    by_cases hin : i < rows.length
    · obtain ⟨rfl, rfl⟩ := hd hin
      have hmem : rr rows i ∈ rows := rr_mem hin
      have hsr := hs.2 _ hmem
      have hwd := qh5 hsr
      have hlen := hsr.1
      have hvg := V.vg hmem
      have hgr := qbv hin
      have hlg := lens_get k hin
      have e : ∀ l k, brT l k = .agg [ints (brC l k), ints (brS l k)] := fun _ _ => rfl
      have q1 := ztp (l := rr rows i) (a := 0) (b := false) (c := false) (d := 0) (k := k) (n := 0) ⟨by omega, by omega⟩
      have hby := brC_byte (rr rows i) k
      have hrr := round_row (fun g hg => glyZ_zero ((V.rows _ hmem).1 g hg)) k
      have hCl : (brC (rr rows i) k).length ≤ 3920 := by
        have := br28 (V.rows _ hmem).1 k
        omega
      generalize hC : brC (rr rows i) k = C at *
      have q2 := gls_pre (l := C) (a := 0) (b := false) (c := false) (d := 0) (k := k) (n := 0) ⟨hby, by omega⟩
      have q3 := unst_pre (l := rr rows i) (by omega)
      have hpll : (zyc (rr rows i)).length ≤ 1000000 := by unfold zyc; rw [List.length_map]; omega
      have q4 := tsm_pre (a := zyc (rr rows i)) (b := zyc (rr rows i)) ⟨hpll, rfl⟩
      have hcp := qih sz C.length
      have e1 : IntKind.wrap .i64 ((i : Int) + 1) = ((i + 1 : Nat) : Int) := by rw [wrap_i64 (by omega) (by omega)]; omega
      simp only [Tree.den, E.den, P1.den, P2.den, P3.den, qa, qb, qc, qd, qe, qf, qg, qh, zac, zab, zad, zaa, zae, TV.cell, zah, zai, zag, zaf, qi, qj, qk, ql, qm, qn, ne_eq, qo, qp, forall_eq, qs, qt, Int.reduceToNat, qu, exists_eq_left', zaj, zao, zaq, zan, zap, zam, zal, zar, qv, qq, qr, zak, List.cons_append, List.nil_append, Int.toNat_natCast, qbh, List.length_map, hgr, zx9, e, hC, unst_all, z4s, hrr]
      refine ⟨fun _ => ⟨by omega, by omega, q1, TiI C i rows.length sz, Tim C, ⟨0, i, 0, df, by rw [Nat.zero_mul]; rfl, Nat.zero_le _, fun _ => ⟨rfl, by rw [Nat.zero_mul]; rfl⟩, fun h0 => absurd h0 (by omega)⟩, ?_⟩, fun hh => absurd hh (by omega)⟩
      rintro xs _ ⟨j, dr, dl, df, rfl, hj, hd1, hd2⟩
      by_cases hjc : j < cntW sz C.length
      · obtain ⟨rfl, rfl⟩ := hd1 hjc
        have hjs : j = 0 ∨ j * sz < C.length := by
          rcases Nat.eq_zero_or_pos j with h0 | h0
          · exact .inl h0
          · exact .inr ((more_iff hs1 hj h0).1 hjc)
        have hjb : j * sz ≤ C.length := by
          rcases hjs with h0 | h0
          · rw [h0, Nat.zero_mul]; omega
          · omega
        have hq : qhx (sz : Int) (i : Int) ((j * sz : Nat) : Int) w h rows r c = true := properD_iff.2 ⟨by omega, by omega, by omega, by omega, by omega, by omega, hc⟩
        obtain ⟨a, hshow⟩ := show_any hq (show min (i : Int) (h - 1) = i by omega) vis k
        rw [show rw' rows (i : Int) = rr rows i from by unfold rw'; rw [Int.toNat_natCast], hC, Int.toNat_natCast, Int.toNat_natCast] at hshow
        have hX := toW_one hs1 hlg hjc
        have hpan := qiq (df := df) hq k 1
        unfold winT at hpan
        rw [Int.toNat_natCast, Int.toNat_natCast, Int.toNat_natCast] at hpan
        have hXl := qir rows k
        obtain ⟨⟨X1, X2⟩, hXX⟩ : ∃ X, toW sz i (j * sz) (lensW rows k) 1 = X := ⟨_, rfl⟩
        rw [hXX] at hpan hX
        have hnx : (j + 1 < cntW sz C.length → (X1 : Int) = i ∧ (X2 : Int) = ((j + 1) * sz : Nat)) ∧ (j + 1 = cntW sz C.length → i + 1 < rows.length → (X1 : Int) = (i + 1 : Nat) ∧ (X2 : Int) = 0) := by
          refine ⟨fun h1 => ?_, fun h1 h2 => ?_⟩
          · rw [if_pos h1] at hX
            cases hX
            exact ⟨rfl, rfl⟩
          · rw [if_neg (by omega), if_pos (by omega)] at hX
            cases hX
            exact ⟨rfl, rfl⟩
        have hj1 : (j + 1) * sz = j * sz + sz := by rw [Nat.add_mul, Nat.one_mul]
        have hps := padC_show C sz j
        simp only [Tree.den, E.den, P1.den, P2.den, P3.den, qa, qb, qc, qd, qe, qf, qg, qh, zac, zab, zad, zaa, zae, TV.cell, zah, zai, zag, zaf, qi, qj, qk, ql, qm, qn, ne_eq, qo, qp, forall_eq, qs, qt, Int.reduceToNat, qu, exists_eq_left', zaj, zao, zaq, zan, zap, zam, zal, zar, qv, qq, qr, zak, List.cons_append, List.nil_append, Int.toNat_natCast, pshow_all, hshow, ppan_all, hpan, showC_len, padC_len, esz, hps]
        refine ⟨fun _ => ?_, fun hj0 => ⟨fun _ => ?_, fun hh => absurd hh (by have := hjs.resolve_left hj0; omega)⟩⟩
        all_goals
          refine ⟨pshow_pre hs, fun hh => absurd trivial hh, fun _ => ⟨fun hh => absurd trivial hh, fun _ => ⟨by omega, ppan_pre hs, ⟨j + 1, X1, X2, false, by rw [decide_eq_false (show ¬ j + 1 = 0 by omega)], by omega, hnx.1, hnx.2⟩, ?_⟩⟩⟩
          rw [tim_i, tim_i, padC_len, padC_len, hj1]
          omega
      · obtain rfl : j = cntW sz C.length := by omega
        have hcv := cover (sz := sz) (n := C.length) hs1
        have hpt := padC_take hcv
        have hsub : TV.list (List.take (C.length - 0) (List.drop 0 (List.map TV.int (padC C (cntW sz C.length * sz))))) = ints C := by
          rw [Nat.sub_zero, List.drop_zero, ← List.map_take, hpt]
          rfl
        have ef : decide (cntW sz C.length = 0) = false := decide_eq_false (by omega)
        simp only [Tree.den, E.den, P1.den, P2.den, P3.den, qa, qb, qc, qd, qe, qf, qg, qh, zac, zab, zad, zaa, zae, TV.cell, zah, zai, zag, zaf, qi, qj, qk, ql, qm, qn, ne_eq, qo, qp, forall_eq, qs, qt, Int.reduceToNat, qu, exists_eq_left', zaj, zao, zaq, zan, zap, zam, zal, zar, qv, qq, qr, zak, List.cons_append, List.nil_append, Int.toNat_natCast, ef, e1, padC_len, wom_i, hsub, gls_all, z4s, hrr, tsm_all, and_self]
        exact ⟨fun hh => absurd hh (by simp), fun _ => ⟨fun hh => absurd hh (by omega), fun _ => ⟨by omega, by omega, q2, fun hh => absurd trivial hh, fun _ => ⟨q3, q4, False.elim, fun _ => ⟨⟨i + 1, dr, dl, df, rfl, by omega, fun hh => hd2 rfl hh⟩, by omega⟩⟩⟩⟩⟩
    · simp only [Tree.den, E.den, P1.den, P2.den, P3.den, qa, qb, qc, qd, qe, qf, qg, qh, zac, zab, zad, zaa, zae, TV.cell, zah, zai, zag, zaf, qi, qj, qk, ql, qm, qn, ne_eq, qo, qp, forall_eq, qs, qt, Int.reduceToNat, qu, exists_eq_left', List.cons_append, List.nil_append, Int.toNat_natCast, qbh, List.length_map, felt_all]
      exact ⟨fun hh => absurd hh (by omega), fun _ => ⟨felt_pre, rfl⟩⟩)) rfl
end Go.Proofs.YtlhagkbhojmjpaaDoor

