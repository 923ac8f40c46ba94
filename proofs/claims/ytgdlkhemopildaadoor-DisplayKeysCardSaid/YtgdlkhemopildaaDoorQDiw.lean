/- Written by this repo's own program out of its texts. -/
import Derived.Test.YtgdlkhemopildaaDoorQDiv
namespace Go.Proofs.YtgdlkhemopildaaDoor
set_option linter.unusedSimpArgs false
set_option linter.unusedVariables false
set_option linter.unusedSectionVars false
def keyT (s : List UInt8) : TV := .agg [.str s, .int 0, .bool false, .bool false, .bool false]
def keysT (l : List (List UInt8)) : TV := .list (l.map keyT)
theorem qh3 (l : List (List UInt8)) : (keysT l).asList.length = l.length := by unfold keysT; rw [TV.asList, List.length_map]
theorem keysT_snoc (l : List (List UInt8)) (s : List UInt8) : TV.list ((keysT l).asList ++ [.agg [.str s, .int 0, .bool false, .bool false, .bool false]]) = keysT (l ++ [s]) := by
  unfold keysT
  rw [TV.asList, List.map_append]
  rfl
theorem keysT_app (a b : List (List UInt8)) : (keysT a).asList ++ (keysT b).asList = (keysT (a ++ b)).asList := by
  unfold keysT
  rw [TV.asList, TV.asList, TV.asList, List.map_append]
theorem keysT_list (a : List (List UInt8)) : TV.list (keysT a).asList = keysT a := rfl
theorem keyT_inj {a b : List UInt8} (h : keyT a = keyT b) : a = b := by unfold keyT at h; simp only [TV.agg.injEq, List.cons.injEq, TV.str.injEq] at h; exact h.1
theorem keysT_inj {a b : List (List UInt8)} (h : keysT a = keysT b) : a = b := by
  unfold keysT at h
  simp only [TV.list.injEq] at h
  exact List.map_inj_right (fun _ _ h => keyT_inj h) |>.1 h
theorem keysT_eq {a b : List (List UInt8)} : keysT a = keysT b ↔ a = b := ⟨keysT_inj, fun h => by rw [h]⟩
theorem qh4 (n : Nat) (s : List UInt8) : List.replicate n s ++ [s] = List.replicate (n + 1) s := by rw [List.replicate_succ']
def RrI (s : List UInt8) (n : Int) (xs : List TV) : Prop := ∃ k : Nat, xs = [.int k, keysT (List.replicate k s)] ∧ k ≤ n.toNat
def Rrm (n : Int) (xs : List TV) : Nat := n.toNat - (xs.getD 0 (.int 0)).asInt.toNat
theorem rrm_i (n : Int) (k : Nat) (x : TV) : Rrm n [.int (k : Int), x] = n.toNat - k := congrArg (n.toNat - ·) (Int.toNat_natCast k)
def rrepL : Law := ⟨fun ts => ∃ (s : List UInt8) (n : Int), ts = [.str s, .int n] ∧ (n ≤ 1000000), fun ts z₀ => ∀ (s : List UInt8) (n : Int), ts = [.str s, .int n] → z₀ = keysT (List.replicate n.toNat s)⟩
theorem rrep_pre {s : List UInt8} {n : Int} (h : n ≤ 1000000) : rrepL.pre [.str s, .int n] := ⟨s, n, rfl, h⟩
theorem rrep_fin {s : List UInt8} {n : Int} {z₀ : TV} (h : z₀ = keysT (List.replicate n.toNat s)) : rrepL.post [.str s, .int n] z₀ := fun s₁ n₁ e => by
  simp only [List.cons.injEq, TV.str.injEq, TV.int.injEq, TV.bool.injEq, TV.agg.injEq, TV.list.injEq, zat, and_true, true_and, and_assoc] at e; obtain ⟨rfl, rfl⟩ := e
  exact h
theorem rrep_all {s : List UInt8} {n : Int} {Q : TV → Prop} : (∀ z₀, rrepL.post [.str s, .int n] z₀ → Q z₀) ↔ Q (keysT (List.replicate n.toNat s)) := ⟨fun h => h _ (rrep_fin rfl), fun h z₀ hr => by rw [hr _ _ rfl]; exact h⟩
theorem rrep_c (k : Nat) : Contract Tryd.prog (mkEnv globT []) gtabU (qdo k) rrepL.pre rrepL.post := Contract.env (Γ := mkEnv globT []) (contract_ref54_repeat (fun _ => rfl) (fun s hs => by
    cases hs) k (by
  rintro ts hl ⟨s, n, rfl, hp⟩
  have hfin : ∀ z₀ : TV, z₀ = keysT (List.replicate n.toNat s) → rrepL.post [.str s, .int n] z₀ := fun z₀ hz₀ => rrep_fin hz₀
  generalize rrepL.post [.str s, .int n] = R at hfin ⊢
  unfold tr_ref54_repeat
  simp only [Tree.den, E.den, P1.den, P2.den, P3.den, qa, qb, qc, qd, qe, qf, qg, qh, zac, zab, zad, zaa, zae, TV.cell, zah, zai, zag, zaf, qi, qj, qk, ql, qm, qn, ne_eq, qo, qp, forall_eq, qs, qt, Int.reduceToNat, qu, exists_eq_left']
  simp only [Tree.den, E.den, P1.den, P2.den, P3.den, qa, qb, qc, qd, qe, qf, qg, qh, zac, zab, zad, zaa, zae, TV.cell, zah, zai, zag, zaf, qi, qj, qk, ql, qm, qn, ne_eq, qo, qp, forall_eq, qs, qt, Int.reduceToNat, qu, exists_eq_left', zaj, zao, zaq, zan, zap, zam, zal, zar, qv, qq, qr, zak]
  refine ⟨RrI s n, Rrm n, ⟨0, rfl, by omega⟩, ?_⟩
  rintro xs _ ⟨k, rfl, hk⟩
  have e1 : IntKind.wrap .i64 ((k : Int) + 1) = ((k + 1 : Nat) : Int) := by rw [wrap_i64 (by omega) (by omega)]; omega
  simp only [Tree.den, E.den, P1.den, P2.den, P3.den, qa, qb, qc, qd, qe, qf, qg, qh, zac, zab, zad, zaa, zae, TV.cell, zah, zai, zag, zaf, qi, qj, qk, ql, qm, qn, ne_eq, qo, qp, forall_eq, qs, qt, Int.reduceToNat, qu, exists_eq_left', qh3, List.length_replicate, e1, keysT_snoc, qh4, rrm_i]
  exact ⟨fun hlt => ⟨by omega, ⟨k + 1, rfl, by omega⟩, by omega⟩, fun hge => hfin _ (by rw [show k = n.toNat by omega])⟩)) rfl
def keyN (r c i j : Int) : List (List UInt8) := List.replicate (j - c).toNat [82, 105, 103, 104, 116] ++ List.replicate (c - j).toNat [76, 101, 102, 116] ++ List.replicate (i - r).toNat [68, 111, 119, 110] ++ List.replicate (r - i).toNat [85, 112]
noncomputable def keysV (w h : Int) (rows : List (List Gl)) (r c i j : Int) : List (List UInt8) := if qbo w h rows r c = 0 ∧ 0 ≤ i ∧ i < h ∧ 0 ≤ j ∧ j < w then keyN r c i j else []
theorem keyN_len (r c i j : Int) : (keyN r c i j).length = (j - c).toNat + (c - j).toNat + (i - r).toNat + (r - i).toNat := by
  unfold keyN
  simp only [List.length_append, List.length_replicate]
theorem keysV_bd (w h : Int) (rows : List (List Gl)) (r c i j : Int) : (keysV w h rows r c i j).length ≤ 1000 := by
  unfold keysV
  split
  · rename_i hc
    have V := proper_view hc.1
    have b1 := V.h1; have b2 := V.h2; have b4 := V.r1; have b5 := V.r2; have b6 := V.c1; have b7 := V.c2; have b8 := V.w2
    rw [keyN_len]; omega
  · simp
def rkeysL : Law := ⟨fun ts => ∃ (w : Int) (h : Int) (rows : List (List Gl)) (r : Int) (c : Int) (vis : Bool) (i : Int) (j : Int), ts = [.agg [.int w, .int h, rowsT rows, .int r, .int c, .bool vis], .int i, .int j] ∧ (SmallV rows), fun ts z₀ => ∀ (w : Int) (h : Int) (rows : List (List Gl)) (r : Int) (c : Int) (vis : Bool) (i : Int) (j : Int), ts = [.agg [.int w, .int h, rowsT rows, .int r, .int c, .bool vis], .int i, .int j] → z₀ = keysT (keysV w h rows r c i j)⟩
theorem rkeys_pre {w : Int} {h : Int} {rows : List (List Gl)} {r : Int} {c : Int} {vis : Bool} {i : Int} {j : Int} (h₀ : SmallV rows) : rkeysL.pre [.agg [.int w, .int h, rowsT rows, .int r, .int c, .bool vis], .int i, .int j] := ⟨w, h, rows, r, c, vis, i, j, rfl, h₀⟩
theorem rkeys_fin {w : Int} {h : Int} {rows : List (List Gl)} {r : Int} {c : Int} {vis : Bool} {i : Int} {j : Int} {z₀ : TV} (h₀ : z₀ = keysT (keysV w h rows r c i j)) : rkeysL.post [.agg [.int w, .int h, rowsT rows, .int r, .int c, .bool vis], .int i, .int j] z₀ := fun w₁ h₁ rows₁ r₁ c₁ vis₁ i₁ j₁ e => by
  simp only [List.cons.injEq, TV.str.injEq, TV.int.injEq, TV.bool.injEq, TV.agg.injEq, TV.list.injEq, zat, and_true, true_and, and_assoc, rowsT_eq] at e; obtain ⟨rfl, rfl, rfl, rfl, rfl, rfl, rfl, rfl⟩ := e
  exact h₀
theorem rkeys_all {w : Int} {h : Int} {rows : List (List Gl)} {r : Int} {c : Int} {vis : Bool} {i : Int} {j : Int} {Q : TV → Prop} : (∀ z₀, rkeysL.post [.agg [.int w, .int h, rowsT rows, .int r, .int c, .bool vis], .int i, .int j] z₀ → Q z₀) ↔ Q (keysT (keysV w h rows r c i j)) := ⟨fun h₀ => h₀ _ (rkeys_fin rfl), fun h₀ z₀ hr => by rw [hr _ _ _ _ _ _ _ _ rfl]; exact h₀⟩
theorem rkeys_c (k : Nat) : Contract Tryd.prog (mkEnv globT []) gtabU (qe3 k) rkeysL.pre rkeysL.post := Contract.env (Γ := mkEnv globT [rckL, rrepL]) (contract_ref54_Keys (fun _ => rfl) (fun s hs => by
    simp only [cx_ref54_Keys, List.mem_cons, List.not_mem_nil, or_false] at hs
    rcases hs with rfl | rfl
    · exact Contract.inEnv rfl (rck_c 0) rfl
    · exact Contract.inEnv rfl (rrep_c 1) rfl) k (by
  rintro ts hl ⟨w, h, rows, r, c, vis, i, j, rfl, hp⟩
  have hfin : ∀ z₀ : TV, z₀ = keysT (keysV w h rows r c i j) → rkeysL.post [.agg [.int w, .int h, rowsT rows, .int r, .int c, .bool vis], .int i, .int j] z₀ := fun z₀ hz₀ => rkeys_fin hz₀
  generalize rkeysL.post [.agg [.int w, .int h, rowsT rows, .int r, .int c, .bool vis], .int i, .int j] = R at hfin ⊢
  unfold tr_ref54_Keys
  simp only [Tree.den, E.den, P1.den, P2.den, P3.den, qa, qb, qc, qd, qe, qf, qg, qh, zac, zab, zad, zaa, zae, TV.cell, zah, zai, zag, zaf, qi, qj, qk, ql, qm, qn, ne_eq, qo, qp, forall_eq, qs, qt, Int.reduceToNat, qu, exists_eq_left', rck_all]
  unfold keysV at hfin
  by_cases hc : qbo w h rows r c = 0
  · have V := proper_view hc
    have b1 := V.h1; have b2 := V.h2; have b4 := V.r1; have b5 := V.r2; have b6 := V.c1; have b7 := V.c2; have b8 := V.w2
    refine ⟨rck_pre hp, fun hn => absurd hc hn, fun _ => ⟨fun h1 => hfin _ (by rw [if_neg (by omega)]; rfl), fun h1 => ⟨fun h2 => hfin _ (by rw [if_neg (by omega)]; rfl), fun h2 => ⟨fun h3 => hfin _ (by rw [if_neg (by omega)]; rfl), fun h3 => ⟨fun h4 => hfin _ (by rw [if_neg (by omega)]; rfl), fun h4 => ?_⟩⟩⟩⟩⟩
    rw [if_pos ⟨hc, by omega, by omega, by omega, by omega⟩] at hfin
    have e1 : IntKind.wrap .i64 (j - c) = j - c := wrap_i64 (by omega) (by omega)
    have e2 : IntKind.wrap .i64 (c - j) = c - j := wrap_i64 (by omega) (by omega)
    have e3 : IntKind.wrap .i64 (i - r) = i - r := wrap_i64 (by omega) (by omega)
    have e4 : IntKind.wrap .i64 (r - i) = r - i := wrap_i64 (by omega) (by omega)
    simp only [e1, e2, e3, e4, rrep_all, keysT_app, keysT_list, qh3, List.length_append, List.length_replicate]
    exact ⟨rrep_pre (by omega), rrep_pre (by omega), by omega, rrep_pre (by omega), by omega, rrep_pre (by omega), by omega, hfin _ rfl⟩
  · rw [if_neg (fun hh => hc hh.1)] at hfin
    exact ⟨rck_pre hp, fun _ => hfin _ rfl, fun hn => absurd hn hc⟩)) rfl
def KaI (s : List UInt8) (o : List (List UInt8)) (d : Int) (xs : List TV) : Prop := ∃ k : Nat, xs = [.int (d - k), keysT (o ++ List.replicate k s)] ∧ k ≤ d.toNat
def Kam (xs : List TV) : Nat := (xs.getD 0 (.int 0)).asInt.toNat
def KbI (s : List UInt8) (o : List (List UInt8)) (d : Int) (xs : List TV) : Prop := ∃ k : Nat, xs = [.int (d + k), keysT (o ++ List.replicate k s)] ∧ k ≤ (-d).toNat
def Kbm (xs : List TV) : Nat := (-(xs.getD 0 (.int 0)).asInt).toNat
theorem kam_i (z : Int) (x : TV) : Kam [.int z, x] = z.toNat := rfl
theorem kbm_i (z : Int) (x : TV) : Kbm [.int z, x] = (-z).toNat := rfl
theorem app_rep (o : List (List UInt8)) (k : Nat) (s : List UInt8) : o ++ List.replicate k s ++ [s] = o ++ List.replicate (k + 1) s := by rw [List.append_assoc, qh4]
theorem loop_a {s : List UInt8} {o : List (List UInt8)} {d : Int} {k : Nat} (hd : d ≤ 1000) (hd2 : -1000 ≤ d) (ho : o.length ≤ 1000) (hk : k ≤ d.toNat) (hlt : 0 < d - k) :
    ((((o ++ List.replicate k s).length + (0 + 1) : Nat) : Int) ≤ 1099511627776) ∧ KaI s o d [.int (IntKind.wrap .i64 (d - k - 1)), keysT (o ++ List.replicate (k + 1) s)] ∧ Kam [.int (IntKind.wrap .i64 (d - k - 1)), keysT (o ++ List.replicate (k + 1) s)] < Kam [.int (d - k), keysT (o ++ List.replicate k s)] := by
  have e1 : IntKind.wrap .i64 (d - k - 1) = d - ((k + 1 : Nat) : Int) := by rw [wrap_i64 (by omega) (by omega)]; omega
  rw [e1, kam_i, kam_i, List.length_append, List.length_replicate]
  exact ⟨by omega, ⟨k + 1, rfl, by omega⟩, by omega⟩
theorem loop_b {s : List UInt8} {o : List (List UInt8)} {d : Int} {k : Nat} (hd : d ≤ 1000) (hd2 : -1000 ≤ d) (ho : o.length ≤ 1000) (hk : k ≤ (-d).toNat) (hlt : d + k < 0) :
    ((((o ++ List.replicate k s).length + (0 + 1) : Nat) : Int) ≤ 1099511627776) ∧ KbI s o d [.int (IntKind.wrap .i64 (d + k + 1)), keysT (o ++ List.replicate (k + 1) s)] ∧ Kbm [.int (IntKind.wrap .i64 (d + k + 1)), keysT (o ++ List.replicate (k + 1) s)] < Kbm [.int (d + k), keysT (o ++ List.replicate k s)] := by
  have e1 : IntKind.wrap .i64 (d + k + 1) = d + ((k + 1 : Nat) : Int) := by rw [wrap_i64 (by omega) (by omega)]; omega
  rw [e1, kbm_i, kbm_i, List.length_append, List.length_replicate]
  exact ⟨by omega, ⟨k + 1, rfl, by omega⟩, by omega⟩
def pkeysL : Law := ⟨fun ts => ∃ (w : Int) (h : Int) (rows : List (List Gl)) (r : Int) (c : Int) (vis : Bool) (i : Int) (j : Int), ts = [.agg [.int w, .int h, rowsT rows, .int r, .int c, .bool vis], .int i, .int j] ∧ (SmallV rows), fun ts z₀ => ∀ (w : Int) (h : Int) (rows : List (List Gl)) (r : Int) (c : Int) (vis : Bool) (i : Int) (j : Int), ts = [.agg [.int w, .int h, rowsT rows, .int r, .int c, .bool vis], .int i, .int j] → z₀ = keysT (keysV w h rows r c i j)⟩
theorem pkeys_pre {w : Int} {h : Int} {rows : List (List Gl)} {r : Int} {c : Int} {vis : Bool} {i : Int} {j : Int} (h₀ : SmallV rows) : pkeysL.pre [.agg [.int w, .int h, rowsT rows, .int r, .int c, .bool vis], .int i, .int j] := ⟨w, h, rows, r, c, vis, i, j, rfl, h₀⟩
theorem pkeys_fin {w : Int} {h : Int} {rows : List (List Gl)} {r : Int} {c : Int} {vis : Bool} {i : Int} {j : Int} {z₀ : TV} (h₀ : z₀ = keysT (keysV w h rows r c i j)) : pkeysL.post [.agg [.int w, .int h, rowsT rows, .int r, .int c, .bool vis], .int i, .int j] z₀ := fun w₁ h₁ rows₁ r₁ c₁ vis₁ i₁ j₁ e => by
  simp only [List.cons.injEq, TV.str.injEq, TV.int.injEq, TV.bool.injEq, TV.agg.injEq, TV.list.injEq, zat, and_true, true_and, and_assoc, rowsT_eq] at e; obtain ⟨rfl, rfl, rfl, rfl, rfl, rfl, rfl, rfl⟩ := e
  exact h₀
theorem pkeys_all {w : Int} {h : Int} {rows : List (List Gl)} {r : Int} {c : Int} {vis : Bool} {i : Int} {j : Int} {Q : TV → Prop} : (∀ z₀, pkeysL.post [.agg [.int w, .int h, rowsT rows, .int r, .int c, .bool vis], .int i, .int j] z₀ → Q z₀) ↔ Q (keysT (keysV w h rows r c i j)) := ⟨fun h₀ => h₀ _ (pkeys_fin rfl), fun h₀ z₀ hr => by rw [hr _ _ _ _ _ _ _ _ rfl]; exact h₀⟩
theorem pkeys_c (k : Nat) : Contract Tryd.prog (mkEnv globT []) gtabU (qcm k) pkeysL.pre pkeysL.post := Contract.env (Γ := mkEnv globT [pckL]) (contract_display_Keys (fun _ => rfl) (fun s hs => by
    simp only [cx_display_Keys, List.mem_cons, List.not_mem_nil, or_false] at hs
    rcases hs with rfl
    · exact Contract.inEnv rfl (pck_c 0) rfl) k (by
  rintro ts hl ⟨w, h, rows, r, c, vis, i, j, rfl, hp⟩
  have hfin : ∀ z₀ : TV, z₀ = keysT (keysV w h rows r c i j) → pkeysL.post [.agg [.int w, .int h, rowsT rows, .int r, .int c, .bool vis], .int i, .int j] z₀ := fun z₀ hz₀ => pkeys_fin hz₀
  generalize pkeysL.post [.agg [.int w, .int h, rowsT rows, .int r, .int c, .bool vis], .int i, .int j] = R at hfin ⊢
  unfold tr_display_Keys
  simp only [Tree.den, E.den, P1.den, P2.den, P3.den, qa, qb, qc, qd, qe, qf, qg, qh, zac, zab, zad, zaa, zae, TV.cell, zah, zai, zag, zaf, qi, qj, qk, ql, qm, qn, ne_eq, qo, qp, forall_eq, qs, qt, Int.reduceToNat, qu, exists_eq_left', pck_all]
  unfold keysV at hfin
  by_cases hc : qbo w h rows r c = 0
  · have V := proper_view hc
    have b1 := V.h1; have b2 := V.h2; have b4 := V.r1; have b5 := V.r2; have b6 := V.c1; have b7 := V.c2; have b8 := V.w2
    refine ⟨pck_pre hp, fun hn => absurd hc hn, fun _ => ⟨fun h1 => hfin _ (by rw [if_neg (by omega)]; rfl), fun h1 => ⟨fun h2 => hfin _ (by rw [if_neg (by omega)]; rfl), fun h2 => ⟨fun h3 => hfin _ (by rw [if_neg (by omega)]; rfl), fun h3 => ⟨fun h4 => hfin _ (by rw [if_neg (by omega)]; rfl), fun h4 => ?_⟩⟩⟩⟩⟩
    rw [if_pos ⟨hc, by omega, by omega, by omega, by omega⟩] at hfin
    have e1 : IntKind.wrap .i64 (j - c) = j - c := wrap_i64 (by omega) (by omega)
    have e3 : IntKind.wrap .i64 (i - r) = i - r := wrap_i64 (by omega) (by omega)
    rw [e1, e3]
    refine ⟨KaI [82, 105, 103, 104, 116] [] (j - c), Kam, ⟨0, by rw [List.nil_append]; simp only [Int.natCast_zero, Int.sub_zero]; rfl, by omega⟩, ?_⟩
    rintro xs _ ⟨k1, rfl, hk1⟩
    simp only [Tree.den, E.den, P1.den, P2.den, P3.den, qa, qb, qc, qd, qe, qf, qg, qh, zac, zab, zad, zaa, zae, TV.cell, zah, zai, zag, zaf, qi, qj, qk, ql, qm, qn, ne_eq, qo, qp, forall_eq, qs, qt, Int.reduceToNat, qu, exists_eq_left', List.cons_append, List.nil_append, keysT_snoc, qh4, app_rep, qh3]
    simp only [Tree.den, E.den, P1.den, P2.den, P3.den, qa, qb, qc, qd, qe, qf, qg, qh, zac, zab, zad, zaa, zae, TV.cell, zah, zai, zag, zaf, qi, qj, qk, ql, qm, qn, ne_eq, qo, qp, forall_eq, qs, qt, Int.reduceToNat, qu, exists_eq_left', zaj, zao, zaq, zan, zap, zam, zal, zar, qv, qq, qr, zak, qh3, keysT_snoc, qh4, app_rep]
    refine ⟨fun hlt => ⟨by simp only [List.length_replicate]; omega, (loop_a (o := []) (by omega) (by omega) (Nat.zero_le _) hk1 hlt).2⟩, fun hge => ?_⟩
    have hk1' : k1 = (j - c).toNat := by omega
    refine ⟨KbI [76, 101, 102, 116] (List.replicate k1 [82, 105, 103, 104, 116]) (j - c - k1), Kbm, ⟨0, by rw [List.replicate_zero, List.append_nil, Int.natCast_zero, Int.add_zero], by omega⟩, ?_⟩
    rintro xs _ ⟨k2, rfl, hk2⟩
    simp only [Tree.den, E.den, P1.den, P2.den, P3.den, qa, qb, qc, qd, qe, qf, qg, qh, zac, zab, zad, zaa, zae, TV.cell, zah, zai, zag, zaf, qi, qj, qk, ql, qm, qn, ne_eq, qo, qp, forall_eq, qs, qt, Int.reduceToNat, qu, exists_eq_left', List.cons_append, List.nil_append, keysT_snoc, qh4, app_rep, qh3]
    simp only [Tree.den, E.den, P1.den, P2.den, P3.den, qa, qb, qc, qd, qe, qf, qg, qh, zac, zab, zad, zaa, zae, TV.cell, zah, zai, zag, zaf, qi, qj, qk, ql, qm, qn, ne_eq, qo, qp, forall_eq, qs, qt, Int.reduceToNat, qu, exists_eq_left', zaj, zao, zaq, zan, zap, zam, zal, zar, qv, qq, qr, zak, qh3, keysT_snoc, qh4, app_rep]
    refine ⟨fun hlt => ⟨by simp only [List.length_replicate]; omega, (loop_b (by omega) (by omega) (by rw [List.length_replicate]; omega) hk2 hlt).2⟩, fun hge2 => ?_⟩
    have hk2' : k2 = (c - j).toNat := by omega
    refine ⟨KaI [68, 111, 119, 110] (List.replicate k1 [82, 105, 103, 104, 116] ++ List.replicate k2 [76, 101, 102, 116]) (i - r), Kam, ⟨0, by rw [List.replicate_zero, List.append_nil, Int.natCast_zero, Int.sub_zero], by omega⟩, ?_⟩
    rintro xs _ ⟨k3, rfl, hk3⟩
    simp only [Tree.den, E.den, P1.den, P2.den, P3.den, qa, qb, qc, qd, qe, qf, qg, qh, zac, zab, zad, zaa, zae, TV.cell, zah, zai, zag, zaf, qi, qj, qk, ql, qm, qn, ne_eq, qo, qp, forall_eq, qs, qt, Int.reduceToNat, qu, exists_eq_left', List.cons_append, List.nil_append, keysT_snoc, qh4, app_rep, qh3]
    simp only [Tree.den, E.den, P1.den, P2.den, P3.den, qa, qb, qc, qd, qe, qf, qg, qh, zac, zab, zad, zaa, zae, TV.cell, zah, zai, zag, zaf, qi, qj, qk, ql, qm, qn, ne_eq, qo, qp, forall_eq, qs, qt, Int.reduceToNat, qu, exists_eq_left', zaj, zao, zaq, zan, zap, zam, zal, zar, qv, qq, qr, zak, qh3, keysT_snoc, qh4, app_rep]
    refine ⟨fun hlt => ⟨by simp only [List.length_replicate]; omega, (loop_a (by omega) (by omega) (by rw [List.length_append, List.length_replicate, List.length_replicate]; omega) hk3 hlt).2⟩, fun hge3 => ?_⟩
    have hk3' : k3 = (i - r).toNat := by omega
    refine ⟨KbI [85, 112] (List.replicate k1 [82, 105, 103, 104, 116] ++ List.replicate k2 [76, 101, 102, 116] ++ List.replicate k3 [68, 111, 119, 110]) (i - r - k3), Kbm, ⟨0, by rw [List.replicate_zero, List.append_nil, Int.natCast_zero, Int.add_zero], by omega⟩, ?_⟩
    rintro xs _ ⟨k4, rfl, hk4⟩
    simp only [Tree.den, E.den, P1.den, P2.den, P3.den, qa, qb, qc, qd, qe, qf, qg, qh, zac, zab, zad, zaa, zae, TV.cell, zah, zai, zag, zaf, qi, qj, qk, ql, qm, qn, ne_eq, qo, qp, forall_eq, qs, qt, Int.reduceToNat, qu, exists_eq_left', List.cons_append, List.nil_append, keysT_snoc, qh4, app_rep, qh3]
    simp only [Tree.den, E.den, P1.den, P2.den, P3.den, qa, qb, qc, qd, qe, qf, qg, qh, zac, zab, zad, zaa, zae, TV.cell, zah, zai, zag, zaf, qi, qj, qk, ql, qm, qn, ne_eq, qo, qp, forall_eq, qs, qt, Int.reduceToNat, qu, exists_eq_left', zaj, zao, zaq, zan, zap, zam, zal, zar, qv, qq, qr, zak, qh3, keysT_snoc, qh4, app_rep]
    refine ⟨fun hlt => ⟨by simp only [List.length_replicate]; omega, (loop_b (by omega) (by omega) (by rw [List.length_append, List.length_append, List.length_replicate, List.length_replicate, List.length_replicate]; omega) hk4 hlt).2⟩, fun hge4 => hfin _ ?_⟩
    have hk4' : k4 = (r - i).toNat := by omega
    rw [hk1', hk2', hk3', hk4']
    rfl
  · rw [if_neg (fun hh => hc hh.1)] at hfin
    exact ⟨pck_pre hp, fun _ => hfin _ rfl, fun hn => absurd hn hc⟩)) rfl
def SkI (a b : List (List UInt8)) (xs : List TV) : Prop := ∃ i : Nat, xs = [.int i] ∧ i ≤ a.length ∧ a.take i = b.take i
def Skm (a : List (List UInt8)) (xs : List TV) : Nat := a.length - (xs.getD 0 (.int 0)).asInt.toNat
theorem skm_i (a : List (List UInt8)) (i : Nat) : Skm a [.int (i : Int)] = a.length - i := congrArg (a.length - ·) (Int.toNat_natCast i)
theorem keysT_get {l : List (List UInt8)} {i : Nat} (h : i < l.length) : (keysT l).asList.getD i (.int 0) = .agg [.str (l.getD i []), .int 0, .bool false, .bool false, .bool false] := by
  unfold keysT
  rw [TV.asList, List.getD_eq_getElem?_getD, List.getElem?_map, List.getD_eq_getElem?_getD, List.getElem?_eq_getElem h]
  rfl
theorem tks_snoc {l : List (List UInt8)} {j : Nat} (h : j < l.length) : l.take j ++ [l.getD j []] = l.take (j + 1) := by
  rw [List.getD_eq_getElem?_getD, List.getElem?_eq_getElem h, List.take_succ_eq_append_getElem h]
  rfl
def skeysL : Law := ⟨fun ts => ∃ (a : List (List UInt8)) (b : List (List UInt8)), ts = [keysT a, keysT b] ∧ (a.length ≤ 1000000), fun ts z₀ => ∀ (a : List (List UInt8)) (b : List (List UInt8)), ts = [keysT a, keysT b] → z₀ = .bool (decide (a = b))⟩
theorem skeys_pre {a : List (List UInt8)} {b : List (List UInt8)} (h : a.length ≤ 1000000) : skeysL.pre [keysT a, keysT b] := ⟨a, b, rfl, h⟩
theorem skeys_fin {a : List (List UInt8)} {b : List (List UInt8)} {z₀ : TV} (h : z₀ = .bool (decide (a = b))) : skeysL.post [keysT a, keysT b] z₀ := fun a₁ b₁ e => by
  simp only [List.cons.injEq, TV.str.injEq, TV.int.injEq, TV.bool.injEq, TV.agg.injEq, TV.list.injEq, zat, and_true, true_and, and_assoc, keysT_eq] at e; obtain ⟨rfl, rfl⟩ := e
  exact h
theorem skeys_all {a : List (List UInt8)} {b : List (List UInt8)} {Q : TV → Prop} : (∀ z₀, skeysL.post [keysT a, keysT b] z₀ → Q z₀) ↔ Q (.bool (decide (a = b))) := ⟨fun h => h _ (skeys_fin rfl), fun h z₀ hr => by rw [hr _ _ rfl]; exact h⟩
theorem skeys_c (k : Nat) : Contract Tryd.prog (mkEnv globT []) gtabU (qcv k) skeysL.pre skeysL.post := Contract.env (Γ := mkEnv globT []) (contract_ref54_SameKeys (fun _ => rfl) (fun s hs => by
    cases hs) k (by
  rintro ts hl ⟨a, b, rfl, hp⟩
  have hfin : ∀ z₀ : TV, z₀ = .bool (decide (a = b)) → skeysL.post [keysT a, keysT b] z₀ := fun z₀ hz₀ => skeys_fin hz₀
  generalize skeysL.post [keysT a, keysT b] = R at hfin ⊢
  unfold tr_ref54_SameKeys
  simp only [Tree.den, E.den, P1.den, P2.den, P3.den, qa, qb, qc, qd, qe, qf, qg, qh, zac, zab, zad, zaa, zae, TV.cell, zah, zai, zag, zaf, qi, qj, qk, ql, qm, qn, ne_eq, qo, qp, forall_eq, qs, qt, Int.reduceToNat, qu, exists_eq_left']
  simp only [Tree.den, E.den, P1.den, P2.den, P3.den, qa, qb, qc, qd, qe, qf, qg, qh, zac, zab, zad, zaa, zae, TV.cell, zah, zai, zag, zaf, qi, qj, qk, ql, qm, qn, ne_eq, qo, qp, forall_eq, qs, qt, Int.reduceToNat, qu, exists_eq_left', qh3]
  refine ⟨fun hn => hfin _ (by rw [decide_eq_false (fun e => hn (by rw [e]))]), fun hy => ⟨SkI a b, Skm a, ⟨0, rfl, by omega, rfl⟩, ?_⟩⟩
  rintro xs _ ⟨i, rfl, hi, ht⟩
  have e1 : ([TV.int i].getD 0 (TV.int 0)).asInt = i := rfl
  have e2 : IntKind.wrap .i64 ((i : Int) + 1) = ((i + 1 : Nat) : Int) := by rw [wrap_i64 (by omega) (by omega)]; omega
  by_cases hlt : i < a.length
  · have ga := keysT_get hlt
    have gb := keysT_get (l := b) (i := i) (by omega)
    simp only [Tree.den, E.den, P1.den, P2.den, P3.den, qa, qb, qc, qd, qe, qf, qg, qh, zac, zab, zad, zaa, zae, TV.cell, zah, zai, zag, zaf, qi, qj, qk, ql, qm, qn, ne_eq, qo, qp, forall_eq, qs, qt, Int.reduceToNat, qu, exists_eq_left', e1, e2, Int.toNat_natCast, skm_i, ga, gb, if_true]
    by_cases he : a.getD i [] = b.getD i []
    · rw [if_pos he]
      refine ⟨fun h1 => ⟨by omega, by omega, by omega, by omega, fun hne => absurd hne (by rw [zab]; decide), fun _ => ⟨⟨i + 1, rfl, by omega, ?_⟩, by omega⟩⟩, fun h1 => absurd h1 (by omega)⟩
      rw [← tks_snoc hlt, ← tks_snoc (show i < b.length by omega), ht, he]
    · rw [if_neg he]
      exact ⟨fun h1 => ⟨by omega, by omega, by omega, by omega, fun _ => hfin _ (by rw [decide_eq_false (fun e => he (by rw [e]))]), fun hne => absurd hne (by rw [zab]; decide)⟩, fun h1 => absurd h1 (by omega)⟩
  · simp only [Tree.den, E.den, P1.den, P2.den, P3.den, qa, qb, qc, qd, qe, qf, qg, qh, zac, zab, zad, zaa, zae, TV.cell, zah, zai, zag, zaf, qi, qj, qk, ql, qm, qn, ne_eq, qo, qp, forall_eq, qs, qt, Int.reduceToNat, qu, exists_eq_left', e1, e2, Int.toNat_natCast, skm_i]
    refine ⟨fun h1 => absurd h1 (by omega), fun _ => hfin _ ?_⟩
    have : i = a.length := by omega
    rw [this, List.take_of_length_le (by omega), List.take_of_length_le (by omega)] at ht
    rw [decide_eq_true ht])) rfl
def vijP (ts : List TV) : Prop := ∃ (w h : Int) (rows : List (List Gl)) (r c : Int) (vis : Bool) (i j : Int), ts = [.agg [.int w, .int h, rowsT rows, .int r, .int c, .bool vis], .int i, .int j]
theorem vijP_of {k k' : IntKind} {t0 t1 t2 : TV} (h0 : OkA true [.int .i64, .int .i64, .slice false [.slice true [.str, .bool, .int .i64]], .int .i64, .int .i64, .bool] t0) (h1 : OkA false [.int k] t1) (h2 : OkA false [.int k'] t2) : vijP [t0, t1, t2] := by
  obtain ⟨w, h, rows, r, c, vis, rfl⟩ := h0.view
  obtain ⟨x, rfl, _, _⟩ := h1.int
  obtain ⟨y, rfl, _, _⟩ := h2.int
  exact ⟨w, h, rows, r, c, vis, x, y, rfl⟩
theorem lawKeys_c (k : Nat) : Contract Tryd.prog (mkEnv globT []) gtabU (qdv k) (trueL vijP).pre (trueL vijP).post := Contract.env (Γ := mkEnv globT [greatL, pkeysL, rkeysL, skeysL, awkL]) (contract_law54_DisplayKeys (fun _ => rfl) (fun s hs => by
    simp only [cx_law54_DisplayKeys, List.mem_cons, List.not_mem_nil, or_false] at hs
    rcases hs with rfl | rfl | rfl | rfl | rfl
    · exact Contract.inEnv rfl (great_c 0) rfl
    · exact Contract.inEnv rfl (pkeys_c 1) rfl
    · exact Contract.inEnv rfl (rkeys_c 2) rfl
    · exact Contract.inEnv rfl (skeys_c 3) rfl
    · exact Contract.inEnv rfl (awk_c 4) rfl) k (by
  rintro ts hl ⟨w, h, rows, r, c, vis, i, j, rfl⟩
  unfold tr_law54_DisplayKeys
  cases hg : qby w rows with
  | true =>
    simp only [Tree.den, E.den, P1.den, P2.den, P3.den, qa, qb, qc, qd, qe, qf, qg, qh, zac, zab, zad, zaa, zae, TV.cell, zah, zai, zag, zaf, qi, qj, qk, ql, qm, qn, ne_eq, qo, qp, forall_eq, qs, qt, Int.reduceToNat, qu, exists_eq_left', great_all, awk_all, hg]
    exact ⟨great_pre trivial, fun _ => ⟨awk_pre, rfl⟩, False.elim⟩
  | false =>
    have hs := (small_view hg).1
    have hb := keysV_bd w h rows r c i j
    simp only [Tree.den, E.den, P1.den, P2.den, P3.den, qa, qb, qc, qd, qe, qf, qg, qh, zac, zab, zad, zaa, zae, TV.cell, zah, zai, zag, zaf, qi, qj, qk, ql, qm, qn, ne_eq, qo, qp, forall_eq, qs, qt, Int.reduceToNat, qu, exists_eq_left', great_all, awk_all, hg, pkeys_all, rkeys_all, skeys_all, if_true, true_implies, not_true_eq_false, false_implies, and_true, true_and, decide_true]
    exact ⟨great_pre trivial, pkeys_pre hs, rkeys_pre hs, skeys_pre (by omega), awk_pre, rfl⟩)) rfl
end Go.Proofs.YtgdlkhemopildaaDoor

