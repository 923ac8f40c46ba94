/- Written by this repo's own program out of its texts. -/
import Derived.Test.YtlhagkbhojmjpaaGreatDoorRDiv
namespace Go.Proofs.YtlhagkbhojmjpaaGreatDoor
set_option linter.unusedSimpArgs false
set_option linter.unusedVariables false
set_option linter.unusedSectionVars false
def keyT (s : List UInt8) : TV := .agg [.str s, .int 0, .bool false, .bool false, .bool false]
def keysT (l : List (List UInt8)) : TV := .list (l.map keyT)
theorem qh3 (l : List (List UInt8)) : (keysT l).asList.length = l.length := by unfold keysT; rw [TV.asList, List.length_map]
theorem keysT_snoc (l : List (List UInt8)) (s : List UInt8) : TV.list ((keysT l).asList ++ [.agg [.str s, .int 0, .bool false, .bool false, .bool false]]) = keysT (l ++ [s]) := by
  unfold keysT
  rw [TV.asList, List.map_append]
  rfl
theorem qh4 (n : Nat) (s : List UInt8) : List.replicate n s ++ [s] = List.replicate (n + 1) s := by rw [List.replicate_succ']
def keyN (r c i j : Int) : List (List UInt8) := List.replicate (j - c).toNat [82, 105, 103, 104, 116] ++ List.replicate (c - j).toNat [76, 101, 102, 116] ++ List.replicate (i - r).toNat [68, 111, 119, 110] ++ List.replicate (r - i).toNat [85, 112]
noncomputable def keysV (w h : Int) (rows : List (List Gl)) (r c i j : Int) : List (List UInt8) := if qbo w h rows r c = 0 ∧ 0 ≤ i ∧ i < h ∧ 0 ≤ j ∧ j < w then keyN r c i j else []
theorem keyN_len (r c i j : Int) : (keyN r c i j).length = (j - c).toNat + (c - j).toNat + (i - r).toNat + (r - i).toNat := by
  unfold keyN
  simp only [List.length_append, List.length_replicate]
def KaI (s : List UInt8) (o : List (List UInt8)) (d : Int) (xs : List TV) : Prop := ∃ k : Nat, xs = [.int (d - k), keysT (o ++ List.replicate k s)] ∧ k ≤ d.toNat
def Kam (xs : List TV) : Nat := (xs.getD 0 (.int 0)).asInt.toNat
def KbI (s : List UInt8) (o : List (List UInt8)) (d : Int) (xs : List TV) : Prop := ∃ k : Nat, xs = [.int (d + k), keysT (o ++ List.replicate k s)] ∧ k ≤ (-d).toNat
def Kbm (xs : List TV) : Nat := (-(xs.getD 0 (.int 0)).asInt).toNat
theorem kam_i (z : Int) (x : TV) : Kam [.int z, x] = z.toNat := rfl
theorem kbm_i (z : Int) (x : TV) : Kbm [.int z, x] = (-z).toNat := rfl
theorem app_rep (o : List (List UInt8)) (k : Nat) (s : List UInt8) : o ++ List.replicate k s ++ [s] = o ++ List.replicate (k + 1) s := by rw [List.append_assoc, qh4]
theorem loop_a {s : List UInt8} {o : List (List UInt8)} {d : Int} {k : Nat} (hd : d ≤ 1000) (hd2 : -1000 ≤ d) (ho : o.length ≤ 1000) (hk : k ≤ d.toNat) (hlt : 0 < d - k) :
    ((((o ++ List.replicate k s).length + (0 + 1) : Nat) : Int) ≤ 1099511627776) ∧ KaI s o d [.int (IntKind.wrap .i64 (d - k - 1)), keysT (o ++ List.replicate (k + 1) s)] ∧ Kam [.int (IntKind.wrap .i64 (d - k - 1)), keysT (o ++ List.replicate (k + 1) s)] < Kam [.int (d - k), keysT (o ++ List.replicate k s)] := by
  have e1 : IntKind.wrap .i64 (d - k - 1) = d - ((k + 1 : Nat) : Int) := by rw [wrap_i64 (by omega) (by omega)]; omega
  rw [e1, kam_i, kam_i, List.length_append, List.length_replicate]
  exact ⟨by omega, ⟨k + 1, rfl, by omega⟩, by omega⟩
theorem loop_b {s : List UInt8} {o : List (List UInt8)} {d : Int} {k : Nat} (hd : d ≤ 1000) (hd2 : -1000 ≤ d) (ho : o.length ≤ 1000) (hk : k ≤ (-d).toNat) (hlt : d + k < 0) :
    ((((o ++ List.replicate k s).length + (0 + 1) : Nat) : Int) ≤ 1099511627776) ∧ KbI s o d [.int (IntKind.wrap .i64 (d + k + 1)), keysT (o ++ List.replicate (k + 1) s)] ∧ Kbm [.int (IntKind.wrap .i64 (d + k + 1)), keysT (o ++ List.replicate (k + 1) s)] < Kbm [.int (d + k), keysT (o ++ List.replicate k s)] := by
  have e1 : IntKind.wrap .i64 (d + k + 1) = d + ((k + 1 : Nat) : Int) := by rw [wrap_i64 (by omega) (by omega)]; omega
  rw [e1, kbm_i, kbm_i, List.length_append, List.length_replicate]
  exact ⟨by omega, ⟨k + 1, rfl, by omega⟩, by omega⟩
def pkeysL : Law := ⟨fun ts => ∃ (w : Int) (h : Int) (rows : List (List Gl)) (r : Int) (c : Int) (vis : Bool) (i : Int) (j : Int), ts = [.agg [.int w, .int h, rowsT rows, .int r, .int c, .bool vis], .int i, .int j] ∧ (SmallV rows), fun ts z₀ => ∀ (w : Int) (h : Int) (rows : List (List Gl)) (r : Int) (c : Int) (vis : Bool) (i : Int) (j : Int), ts = [.agg [.int w, .int h, rowsT rows, .int r, .int c, .bool vis], .int i, .int j] → z₀ = keysT (keysV w h rows r c i j)⟩
theorem pkeys_pre {w : Int} {h : Int} {rows : List (List Gl)} {r : Int} {c : Int} {vis : Bool} {i : Int} {j : Int} (h₀ : SmallV rows) : pkeysL.pre [.agg [.int w, .int h, rowsT rows, .int r, .int c, .bool vis], .int i, .int j] := ⟨w, h, rows, r, c, vis, i, j, rfl, h₀⟩
theorem pkeys_fin {w : Int} {h : Int} {rows : List (List Gl)} {r : Int} {c : Int} {vis : Bool} {i : Int} {j : Int} {z₀ : TV} (h₀ : z₀ = keysT (keysV w h rows r c i j)) : pkeysL.post [.agg [.int w, .int h, rowsT rows, .int r, .int c, .bool vis], .int i, .int j] z₀ := fun w₁ h₁ rows₁ r₁ c₁ vis₁ i₁ j₁ e => by
  simp only [List.cons.injEq, TV.str.injEq, TV.int.injEq, TV.bool.injEq, TV.agg.injEq, TV.list.injEq, zat, and_true, true_and, and_assoc, rowsT_eq] at e; obtain ⟨rfl, rfl, rfl, rfl, rfl, rfl, rfl, rfl⟩ := e
  exact h₀
theorem pkeys_all {w : Int} {h : Int} {rows : List (List Gl)} {r : Int} {c : Int} {vis : Bool} {i : Int} {j : Int} {Q : TV → Prop} : (∀ z₀, pkeysL.post [.agg [.int w, .int h, rowsT rows, .int r, .int c, .bool vis], .int i, .int j] z₀ → Q z₀) ↔ Q (keysT (keysV w h rows r c i j)) := ⟨fun h₀ => h₀ _ (pkeys_fin rfl), fun h₀ z₀ hr => by rw [hr _ _ _ _ _ _ _ _ rfl]; exact h₀⟩
theorem pkeys_c (k : Nat) : Contract Tryz.prog (mkEnv globT []) gtabU (qcm k) pkeysL.pre pkeysL.post := Contract.env (Γ := mkEnv globT [pckL]) (contract_display_Keys (fun _ => rfl) (fun s hs => by
    simp only [cx_display_Keys, List.mem_cons, List.not_mem_nil, or_false] at hs
    rcases hs with rfl
    · exact Contract.inEnv rfl (pck_c 0) rfl) k (by
  rintro ts hl ⟨w, h, rows, r, c, vis, i, j, rfl, hp⟩
  have hfin : ∀ z₀ : TV, z₀ = keysT (keysV w h rows r c i j) → pkeysL.post [.agg [.int w, .int h, rowsT rows, .int r, .int c, .bool vis], .int i, .int j] z₀ := fun z₀ hz₀ => pkeys_fin hz₀
  generalize pkeysL.post [.agg [.int w, .int h, rowsT rows, .int r, .int c, .bool vis], .int i, .int j] = R at hfin ⊢
  unfold tr_display_Keys
  simp only [Tree.den, E.den, P1.den, P2.den, P3.den, qa, qb, qc, qd, qe, qf, qg, qh, zac, zab, zad, zaa, zae, TV.cell, zah, zai, zag, zaf, qi, qj, qk, ql, qm, qn, ne_eq, qo, qp, forall_eq, qs, qt, Int.reduceToNat, qu, exists_eq_left', pck_all]
  unfold keysV at hfin
  by_cases hc : qbo w h rows r c = 0
  · have V := proper_view hc
    have b1 := V.h1; have b2 := V.h2; have b4 := V.r1; have b5 := V.r2; have b6 := V.c1; have b7 := V.c2; have b8 := V.w2
    refine ⟨pck_pre hp, fun hn => absurd hc hn, fun _ => ⟨fun h1 => hfin _ (by rw [if_neg (by omega)]; rfl), fun h1 => ⟨fun h2 => hfin _ (by rw [if_neg (by omega)]; rfl), fun h2 => ⟨fun h3 => hfin _ (by rw [if_neg (by omega)]; rfl), fun h3 => ⟨fun h4 => hfin _ (by rw [if_neg (by omega)]; rfl), fun h4 => ?_⟩⟩⟩⟩⟩
    rw [if_pos ⟨hc, by omega, by omega, by omega, by omega⟩] at hfin
    have e1 : IntKind.wrap .i64 (j - c) = j - c := wrap_i64 (by omega) (by omega)
    have e3 : IntKind.wrap .i64 (i - r) = i - r := wrap_i64 (by omega) (by omega)
    rw [e1, e3]
    refine ⟨KaI [82, 105, 103, 104, 116] [] (j - c), Kam, ⟨0, by rw [List.nil_append]; simp only [Int.natCast_zero, Int.sub_zero]; rfl, by omega⟩, ?_⟩
    rintro xs _ ⟨k1, rfl, hk1⟩
    simp only [Tree.den, E.den, P1.den, P2.den, P3.den, qa, qb, qc, qd, qe, qf, qg, qh, zac, zab, zad, zaa, zae, TV.cell, zah, zai, zag, zaf, qi, qj, qk, ql, qm, qn, ne_eq, qo, qp, forall_eq, qs, qt, Int.reduceToNat, qu, exists_eq_left', List.cons_append, List.nil_append, keysT_snoc, qh4, app_rep, qh3]
    simp only [Tree.den, E.den, P1.den, P2.den, P3.den, qa, qb, qc, qd, qe, qf, qg, qh, zac, zab, zad, zaa, zae, TV.cell, zah, zai, zag, zaf, qi, qj, qk, ql, qm, qn, ne_eq, qo, qp, forall_eq, qs, qt, Int.reduceToNat, qu, exists_eq_left', zaj, zao, zaq, zan, zap, zam, zal, zar, qv, qq, qr, zak, qh3, keysT_snoc, qh4, app_rep]
    refine ⟨fun hlt => ⟨by simp only [List.length_replicate]; omega, (loop_a (o := []) (by omega) (by omega) (Nat.zero_le _) hk1 hlt).2⟩, fun hge => ?_⟩
    have hk1' : k1 = (j - c).toNat := by omega
    refine ⟨KbI [76, 101, 102, 116] (List.replicate k1 [82, 105, 103, 104, 116]) (j - c - k1), Kbm, ⟨0, by rw [List.replicate_zero, List.append_nil, Int.natCast_zero, Int.add_zero], by omega⟩, ?_⟩
    rintro xs _ ⟨k2, rfl, hk2⟩
    simp only [Tree.den, E.den, P1.den, P2.den, P3.den, qa, qb, qc, qd, qe, qf, qg, qh, zac, zab, zad, zaa, zae, TV.cell, zah, zai, zag, zaf, qi, qj, qk, ql, qm, qn, ne_eq, qo, qp, forall_eq, qs, qt, Int.reduceToNat, qu, exists_eq_left', List.cons_append, List.nil_append, keysT_snoc, qh4, app_rep, qh3]
    simp only [Tree.den, E.den, P1.den, P2.den, P3.den, qa, qb, qc, qd, qe, qf, qg, qh, zac, zab, zad, zaa, zae, TV.cell, zah, zai, zag, zaf, qi, qj, qk, ql, qm, qn, ne_eq, qo, qp, forall_eq, qs, qt, Int.reduceToNat, qu, exists_eq_left', zaj, zao, zaq, zan, zap, zam, zal, zar, qv, qq, qr, zak, qh3, keysT_snoc, qh4, app_rep]
    refine ⟨fun hlt => ⟨by simp only [List.length_replicate]; omega, (loop_b (by omega) (by omega) (by rw [List.length_replicate]; omega) hk2 hlt).2⟩, fun hge2 => ?_⟩
    have hk2' : k2 = (c - j).toNat := by omega
    refine ⟨KaI [68, 111, 119, 110] (List.replicate k1 [82, 105, 103, 104, 116] ++ List.replicate k2 [76, 101, 102, 116]) (i - r), Kam, ⟨0, by rw [List.replicate_zero, List.append_nil, Int.natCast_zero, Int.sub_zero], by omega⟩, ?_⟩
    rintro xs _ ⟨k3, rfl, hk3⟩
    simp only [Tree.den, E.den, P1.den, P2.den, P3.den, qa, qb, qc, qd, qe, qf, qg, qh, zac, zab, zad, zaa, zae, TV.cell, zah, zai, zag, zaf, qi, qj, qk, ql, qm, qn, ne_eq, qo, qp, forall_eq, qs, qt, Int.reduceToNat, qu, exists_eq_left', List.cons_append, List.nil_append, keysT_snoc, qh4, app_rep, qh3]
    simp only [Tree.den, E.den, P1.den, P2.den, P3.den, qa, qb, qc, qd, qe, qf, qg, qh, zac, zab, zad, zaa, zae, TV.cell, zah, zai, zag, zaf, qi, qj, qk, ql, qm, qn, ne_eq, qo, qp, forall_eq, qs, qt, Int.reduceToNat, qu, exists_eq_left', zaj, zao, zaq, zan, zap, zam, zal, zar, qv, qq, qr, zak, qh3, keysT_snoc, qh4, app_rep]
    refine ⟨fun hlt => ⟨by simp only [List.length_replicate]; omega, (loop_a (by omega) (by omega) (by rw [List.length_append, List.length_replicate, List.length_replicate]; omega) hk3 hlt).2⟩, fun hge3 => ?_⟩
    have hk3' : k3 = (i - r).toNat := by omega
    refine ⟨KbI [85, 112] (List.replicate k1 [82, 105, 103, 104, 116] ++ List.replicate k2 [76, 101, 102, 116] ++ List.replicate k3 [68, 111, 119, 110]) (i - r - k3), Kbm, ⟨0, by rw [List.replicate_zero, List.append_nil, Int.natCast_zero, Int.add_zero], by omega⟩, ?_⟩
    rintro xs _ ⟨k4, rfl, hk4⟩
    simp only [Tree.den, E.den, P1.den, P2.den, P3.den, qa, qb, qc, qd, qe, qf, qg, qh, zac, zab, zad, zaa, zae, TV.cell, zah, zai, zag, zaf, qi, qj, qk, ql, qm, qn, ne_eq, qo, qp, forall_eq, qs, qt, Int.reduceToNat, qu, exists_eq_left', List.cons_append, List.nil_append, keysT_snoc, qh4, app_rep, qh3]
    simp only [Tree.den, E.den, P1.den, P2.den, P3.den, qa, qb, qc, qd, qe, qf, qg, qh, zac, zab, zad, zaa, zae, TV.cell, zah, zai, zag, zaf, qi, qj, qk, ql, qm, qn, ne_eq, qo, qp, forall_eq, qs, qt, Int.reduceToNat, qu, exists_eq_left', zaj, zao, zaq, zan, zap, zam, zal, zar, qv, qq, qr, zak, qh3, keysT_snoc, qh4, app_rep]
    refine ⟨fun hlt => ⟨by simp only [List.length_replicate]; omega, (loop_b (by omega) (by omega) (by rw [List.length_append, List.length_append, List.length_replicate, List.length_replicate, List.length_replicate]; omega) hk4 hlt).2⟩, fun hge4 => hfin _ ?_⟩
    have hk4' : k4 = (r - i).toNat := by omega
    rw [hk1', hk2', hk3', hk4']
    rfl
  · rw [if_neg (fun hh => hc hh.1)] at hfin
    exact ⟨pck_pre hp, fun _ => hfin _ rfl, fun hn => absurd hn hc⟩)) rfl
theorem keysT_get {l : List (List UInt8)} {i : Nat} (h : i < l.length) : (keysT l).asList.getD i (.int 0) = .agg [.str (l.getD i []), .int 0, .bool false, .bool false, .bool false] := by
  unfold keysT
  rw [TV.asList, List.getD_eq_getElem?_getD, List.getElem?_map, List.getD_eq_getElem?_getD, List.getElem?_eq_getElem h]
  rfl
theorem tks_snoc {l : List (List UInt8)} {j : Nat} (h : j < l.length) : l.take j ++ [l.getD j []] = l.take (j + 1) := by
  rw [List.getD_eq_getElem?_getD, List.getElem?_eq_getElem h, List.take_succ_eq_append_getElem h]
  rfl
end Go.Proofs.YtlhagkbhojmjpaaGreatDoor

