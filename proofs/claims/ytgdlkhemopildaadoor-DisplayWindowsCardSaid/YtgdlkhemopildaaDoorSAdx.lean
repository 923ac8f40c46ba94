/- Written by this repo's own program out of its texts. -/
import Derived.Test.YtgdlkhemopildaaDoorSDiv
import Derived.Test.YtgdlkhemopildaaDoorSMov
namespace Go.Proofs.YtgdlkhemopildaaDoor
set_option linter.unusedSimpArgs false
set_option linter.unusedVariables false
set_option linter.unusedSectionVars false
noncomputable def panT (sz dr dl : Int) (df : Bool) (w h : Int) (rows : List (List Gl)) (r c : Int) (k : Bool) (b : Int) : TV :=
  if qhx sz dr dl w h rows r c = true then movT sz dr dl false rows k b else .agg [.int sz, .int dr, .int dl, .bool df]
def ppanL : Law := ⟨fun ts => ∃ (sz : Int) (dr : Int) (dl : Int) (df : Bool) (w : Int) (h : Int) (rows : List (List Gl)) (r : Int) (c : Int) (vis : Bool) (sa : Int) (sb : Bool) (sc : Bool) (sd : Int) (sk : Bool) (sn : Int) (b : Int), ts = [.agg [.int sz, .int dr, .int dl, .bool df], .agg [.int w, .int h, rowsT rows, .int r, .int c, .bool vis], .agg [.int sa, .bool sb, .bool sc, .int sd, .bool sk, .int sn], .int b] ∧ (SmallV rows), fun ts z₀ => ∀ (sz : Int) (dr : Int) (dl : Int) (df : Bool) (w : Int) (h : Int) (rows : List (List Gl)) (r : Int) (c : Int) (vis : Bool) (sa : Int) (sb : Bool) (sc : Bool) (sd : Int) (sk : Bool) (sn : Int) (b : Int), ts = [.agg [.int sz, .int dr, .int dl, .bool df], .agg [.int w, .int h, rowsT rows, .int r, .int c, .bool vis], .agg [.int sa, .bool sb, .bool sc, .int sd, .bool sk, .int sn], .int b] → z₀ = panT sz dr dl df w h rows r c sk b⟩
theorem ppan_pre {sz : Int} {dr : Int} {dl : Int} {df : Bool} {w : Int} {h : Int} {rows : List (List Gl)} {r : Int} {c : Int} {vis : Bool} {sa : Int} {sb : Bool} {sc : Bool} {sd : Int} {sk : Bool} {sn : Int} {b : Int} (h₀ : SmallV rows) : ppanL.pre [.agg [.int sz, .int dr, .int dl, .bool df], .agg [.int w, .int h, rowsT rows, .int r, .int c, .bool vis], .agg [.int sa, .bool sb, .bool sc, .int sd, .bool sk, .int sn], .int b] := ⟨sz, dr, dl, df, w, h, rows, r, c, vis, sa, sb, sc, sd, sk, sn, b, rfl, h₀⟩
theorem ppan_fin {sz : Int} {dr : Int} {dl : Int} {df : Bool} {w : Int} {h : Int} {rows : List (List Gl)} {r : Int} {c : Int} {vis : Bool} {sa : Int} {sb : Bool} {sc : Bool} {sd : Int} {sk : Bool} {sn : Int} {b : Int} {z₀ : TV} (h₀ : z₀ = panT sz dr dl df w h rows r c sk b) : ppanL.post [.agg [.int sz, .int dr, .int dl, .bool df], .agg [.int w, .int h, rowsT rows, .int r, .int c, .bool vis], .agg [.int sa, .bool sb, .bool sc, .int sd, .bool sk, .int sn], .int b] z₀ := fun sz₁ dr₁ dl₁ df₁ w₁ h₁ rows₁ r₁ c₁ vis₁ sa₁ sb₁ sc₁ sd₁ sk₁ sn₁ b₁ e => by
  simp only [List.cons.injEq, TV.str.injEq, TV.int.injEq, TV.bool.injEq, TV.agg.injEq, TV.list.injEq, zat, and_true, true_and, and_assoc, rowsT_eq] at e; obtain ⟨rfl, rfl, rfl, rfl, rfl, rfl, rfl, rfl, rfl, rfl, rfl, rfl, rfl, rfl, rfl, rfl, rfl⟩ := e
  exact h₀
theorem ppan_all {sz : Int} {dr : Int} {dl : Int} {df : Bool} {w : Int} {h : Int} {rows : List (List Gl)} {r : Int} {c : Int} {vis : Bool} {sa : Int} {sb : Bool} {sc : Bool} {sd : Int} {sk : Bool} {sn : Int} {b : Int} {Q : TV → Prop} : (∀ z₀, ppanL.post [.agg [.int sz, .int dr, .int dl, .bool df], .agg [.int w, .int h, rowsT rows, .int r, .int c, .bool vis], .agg [.int sa, .bool sb, .bool sc, .int sd, .bool sk, .int sn], .int b] z₀ → Q z₀) ↔ Q (panT sz dr dl df w h rows r c sk b) := ⟨fun h₀ => h₀ _ (ppan_fin rfl), fun h₀ z₀ hr => by rw [hr _ _ _ _ _ _ _ _ _ _ _ _ _ _ _ _ _ rfl]; exact h₀⟩
theorem ppan_c (k : Nat) : Contract Tryd.prog (mkEnv globT []) gtabU (qea k) ppanL.pre ppanL.post := Contract.env (Γ := mkEnv globT [pmovL, ppropL]) (contract_display_Pan (fun _ => rfl) (fun s hs => by
    simp only [cx_display_Pan, List.mem_cons, List.not_mem_nil, or_false] at hs
    rcases hs with rfl | rfl
    · exact Contract.inEnv rfl (pmov_c 0) rfl
    · exact Contract.inEnv rfl (pprop_c 1) rfl) k (by
  rintro ts hl ⟨sz, dr, dl, df, w, h, rows, r, c, vis, sa, sb, sc, sd, sk, sn, b, rfl, hp⟩
  have hfin : ∀ z₀ : TV, z₀ = panT sz dr dl df w h rows r c sk b → ppanL.post [.agg [.int sz, .int dr, .int dl, .bool df], .agg [.int w, .int h, rowsT rows, .int r, .int c, .bool vis], .agg [.int sa, .bool sb, .bool sc, .int sd, .bool sk, .int sn], .int b] z₀ := fun z₀ hz₀ => ppan_fin hz₀
  generalize ppanL.post [.agg [.int sz, .int dr, .int dl, .bool df], .agg [.int w, .int h, rowsT rows, .int r, .int c, .bool vis], .agg [.int sa, .bool sb, .bool sc, .int sd, .bool sk, .int sn], .int b] = R at hfin ⊢
  unfold tr_display_Pan
  unfold panT at hfin
  cases hq : qhx sz dr dl w h rows r c with
  | false =>
    rw [if_neg (by rw [hq]; decide)] at hfin
    simp only [Tree.den, E.den, P1.den, P2.den, P3.den, qa, qb, qc, qd, qe, qf, qg, qh, zac, zab, zad, zaa, zae, TV.cell, zah, zai, zag, zaf, qi, qj, qk, ql, qm, qn, ne_eq, qo, qp, forall_eq, qs, qt, Int.reduceToNat, qu, exists_eq_left', pprop_all, hq]
    exact ⟨pprop_pre hp, fun _ => hfin _ rfl, fun h => absurd h (by simp)⟩
  | true =>
    rw [if_pos hq] at hfin
    unfold movT at hfin
    have em : ∀ b, movT sz dr dl df rows sk b = .agg [.int sz, .int ((toW sz.toNat dr.toNat dl.toNat (lensW rows sk) b).1 : Nat), .int ((toW sz.toNat dr.toNat dl.toNat (lensW rows sk) b).2 : Nat), .bool df] := fun _ => rfl
    simp only [Tree.den, E.den, P1.den, P2.den, P3.den, qa, qb, qc, qd, qe, qf, qg, qh, zac, zab, zad, zaa, zae, TV.cell, zah, zai, zag, zaf, qi, qj, qk, ql, qm, qn, ne_eq, qo, qp, forall_eq, qs, qt, Int.reduceToNat, qu, exists_eq_left', pprop_all, hq, pmov_all, em]
    exact ⟨pprop_pre hp, fun h => absurd h (by simp), fun _ => ⟨pmov_pre ⟨hp, hq⟩, hfin _ rfl⟩⟩)) rfl
def winT (sz dr dl : Int) (rows : List (List Gl)) (k : Bool) (b : Int) : Nat × Nat := toW sz.toNat dr.toNat dl.toNat (lensW rows k) b
theorem qiq {sz dr dl w h : Int} {df : Bool} {rows : List (List Gl)} {r c : Int} (hq : qhx sz dr dl w h rows r c = true) (k : Bool) (b : Int) :
    panT sz dr dl df w h rows r c k b = .agg [.int sz, .int ((winT sz dr dl rows k b).1 : Nat), .int ((winT sz dr dl rows k b).2 : Nat), .bool false] := by
  unfold panT
  rw [if_pos hq]
  rfl
theorem qir (rows : List (List Gl)) (k : Bool) : (lensW rows k).length = rows.length := by simp [lensW]
structure PanD (sz dr dl w h : Int) (rows : List (List Gl)) (r c : Int) (k : Bool) (b : Int) : Prop where
  pr : qhx sz ((winT sz dr dl rows k b).1 : Nat) ((winT sz dr dl rows k b).2 : Nat) w h rows r c = true
  lt : ((winT sz dr dl rows k b).1 : Int) < h
  md : (winT sz dr dl rows k b).2 % sz.toNat = 0
theorem qip {sz dr dl w h : Int} {rows : List (List Gl)} {r c : Int} (hs : SmallV rows) (hq : qhx sz dr dl w h rows r c = true) (k : Bool) (b : Int) : PanD sz dr dl w h rows r c k b := by
  have P := properD_iff.1 hq
  have V := proper_view P.ck
  have a1 := P.s1; have a2 := P.s2
  have b1 := V.h1; have b2 := V.h2; have b3 := V.len
  have hll := qir rows k
  have hne : lensW rows k ≠ [] := fun e => by rw [e] at hll; simp at hll; omega
  obtain ⟨h1, h2, _, n, hn, h3⟩ := toW_now (sz := sz.toNat) (dr := dr.toNat) (dl := dl.toNat) (b := b) (by omega) hne
  have hnb : n ≤ 3920 := by
    obtain ⟨l, hl, rfl⟩ := List.mem_map.1 (List.mem_of_getElem? hn)
    have := br28 (V.rows l hl).1 k
    have := (hs.2 l hl).1
    omega
  refine ⟨properD_iff.2 ⟨a1, a2, by omega, ?_, by omega, ?_, P.ck⟩, ?_, h2⟩
  · unfold winT; omega
  · unfold winT; omega
  · unfold winT; omega
theorem win_add {sz dr dl w h : Int} {rows : List (List Gl)} {r c : Int} (hq : qhx sz dr dl w h rows r c = true) (k : Bool) {x y : Int} (hxy : (0 ≤ x ∧ 0 ≤ y) ∨ (x ≤ 0 ∧ y ≤ 0)) :
    winT sz ((winT sz dr dl rows k x).1 : Nat) ((winT sz dr dl rows k x).2 : Nat) rows k y = winT sz dr dl rows k (x + y) := by
  have P := properD_iff.1 hq
  have V := proper_view P.ck
  have a1 := P.s1
  have b1 := V.h1; have b3 := V.len
  have hll := qir rows k
  have hne : lensW rows k ≠ [] := fun e => by rw [e] at hll; simp at hll; omega
  unfold winT
  rw [Int.toNat_natCast, Int.toNat_natCast]
  exact toW_add (by omega) hne hxy
theorem win_zero {sz dr dl w h : Int} {rows : List (List Gl)} {r c : Int} (hq : qhx sz dr dl w h rows r c = true) (k : Bool) :
    ((winT sz dr dl rows k 0).1 : Int) = min dr (h - 1) ∧ ((winT sz dr dl rows k 0).2 : Int) ≤ dl := by
  have P := properD_iff.1 hq
  have V := proper_view P.ck
  have a1 := P.s1; have a3 := P.d1; have a5 := P.l1
  have b1 := V.h1; have b3 := V.len
  have hll := qir rows k
  have hne : lensW rows k ≠ [] := fun e => by rw [e] at hll; simp at hll; omega
  obtain ⟨h1, h2, _⟩ := toW_zero (sz := sz.toNat) (dr := dr.toNat) (dl := dl.toNat) (by omega) hne
  unfold winT
  rw [h1, hll]
  omega
theorem tmod_zero {a : Nat} {sz : Int} (h1 : 1 ≤ sz) (h : a % sz.toNat = 0) : ((a : Nat) : Int).tmod sz = 0 := by
  obtain ⟨n, rfl⟩ : ∃ n : Nat, sz = n := ⟨sz.toNat, by omega⟩
  rw [Int.toNat_natCast] at h
  rw [Int.tmod_eq_emod_of_nonneg (by omega)]
  omega
def dvbuuP (ts : List TV) : Prop := ∃ (sz dr dl : Int) (df : Bool) (w h : Int) (rows : List (List Gl)) (r c : Int) (vis k : Bool) (a b : Int) (bk : Bool), ts = [.agg [.int sz, .int dr, .int dl, .bool df], .agg [.int w, .int h, rowsT rows, .int r, .int c, .bool vis], .bool k, .int a, .int b, .bool bk] ∧ (0 ≤ a ∧ a ≤ 255) ∧ (0 ≤ b ∧ b ≤ 255)
theorem dvbuuP_of {t0 t1 t2 t3 t4 t5 : TV} (h0 : OkA true [.int .i64, .int .i64, .int .i64, .bool] t0) (h1 : OkA true [.int .i64, .int .i64, .slice false [.slice true [.str, .bool, .int .i64]], .int .i64, .int .i64, .bool] t1) (h2 : OkA false [.bool] t2) (h3 : OkA false [.int .u8] t3) (h4 : OkA false [.int .u8] t4) (h5 : OkA false [.bool] t5) : dvbuuP [t0, t1, t2, t3, t4, t5] := by
  obtain ⟨sz, dr, dl, df, rfl⟩ := h0.disp
  obtain ⟨w, h, rows, r, c, vis, rfl⟩ := h1.view
  obtain ⟨k, rfl⟩ := h2.bool
  obtain ⟨a, rfl, p, q⟩ := h3.int
  obtain ⟨b, rfl, p', q'⟩ := h4.int
  obtain ⟨bk, rfl⟩ := h5.bool
  exact ⟨sz, dr, dl, df, w, h, rows, r, c, vis, k, a, b, bk, rfl, ⟨p, q⟩, ⟨p', q'⟩⟩
theorem lawAdds_c (k : Nat) : Contract Tryd.prog (mkEnv globT []) gtabU (qd8 k) (trueL dvbuuP).pre (trueL dvbuuP).post := Contract.env (Γ := mkEnv globT [greatL, ppanL, rpropL, awkL]) (contract_law54_DisplayAdds (fun _ => rfl) (fun s hs => by
    simp only [cx_law54_DisplayAdds, List.mem_cons, List.not_mem_nil, or_false] at hs
    rcases hs with rfl | rfl | rfl | rfl
    · exact Contract.inEnv rfl (great_c 0) rfl
    · exact Contract.inEnv rfl (ppan_c 1) rfl
    · exact Contract.inEnv rfl (rprop_c 2) rfl
    · exact Contract.inEnv rfl (awk_c 3) rfl) k (by
  rintro ts hl ⟨sz, dr, dl, df, w, h, rows, r, c, vis, k, a, b, bk, rfl, ⟨ha0, ha1⟩, ⟨hb0, hb1⟩⟩
  unfold tr_law54_DisplayAdds
  cases hg : qby w rows with
  | true =>
    simp only [Tree.den, E.den, P1.den, P2.den, P3.den, qa, qb, qc, qd, qe, qf, qg, qh, zac, zab, zad, zaa, zae, TV.cell, zah, zai, zag, zaf, qi, qj, qk, ql, qm, qn, ne_eq, qo, qp, forall_eq, qs, qt, Int.reduceToNat, qu, exists_eq_left', great_all, awk_all, hg]
    exact ⟨great_pre trivial, fun _ => ⟨awk_pre, rfl⟩, False.elim⟩
  | false =>
    have hs := (small_view hg).1
    cases hq : qhx sz dr dl w h rows r c with
    | false =>
      simp only [Tree.den, E.den, P1.den, P2.den, P3.den, qa, qb, qc, qd, qe, qf, qg, qh, zac, zab, zad, zaa, zae, TV.cell, zah, zai, zag, zaf, qi, qj, qk, ql, qm, qn, ne_eq, qo, qp, forall_eq, qs, qt, Int.reduceToNat, qu, exists_eq_left', great_all, awk_all, hg, rprop_all, hq]
      exact ⟨great_pre trivial, False.elim, fun _ => ⟨rprop_pre hs, fun _ => ⟨awk_pre, rfl⟩, fun h => absurd h (by simp)⟩⟩
    | true =>
      have P := properD_iff.1 hq
      have V := proper_view P.ck
      have b1 := V.h1; have b2 := V.h2
      have ew1 : IntKind.wrap .i64 a = a := wrap_i64 (by omega) (by omega)
      have ew2 : IntKind.wrap .i64 b = b := wrap_i64 (by omega) (by omega)
      have ew3 : IntKind.wrap .i64 (0 - a) = -a := by rw [wrap_i64 (by omega) (by omega)]; omega
      have ew4 : IntKind.wrap .i64 (0 - b) = -b := by rw [wrap_i64 (by omega) (by omega)]; omega
      have ew5 : IntKind.wrap .i64 (a + b) = a + b := wrap_i64 (by omega) (by omega)
      have ew6 : IntKind.wrap .i64 (-a + -b) = -a + -b := wrap_i64 (by omega) (by omega)
      have ew7 : IntKind.wrap .i64 (h - 1) = h - 1 := wrap_i64 (by omega) (by omega)
      have hz := win_zero hq k
      have D0 := qip hs hq k 0
      have hmz := tmod_zero P.s1 D0.md
      have hsz : ¬ sz = 0 := by have := P.s1; omega
      cases bk with
      | true =>
        have D1 := qip hs hq k (-a)
        have hA := win_add hq k (x := -a) (y := -b) (.inr ⟨by omega, by omega⟩)
        simp only [Tree.den, E.den, P1.den, P2.den, P3.den, qa, qb, qc, qd, qe, qf, qg, qh, zac, zab, zad, zaa, zae, TV.cell, zah, zai, zag, zaf, qi, qj, qk, ql, qm, qn, ne_eq, qo, qp, forall_eq, qs, qt, Int.reduceToNat, qu, exists_eq_left', great_all, awk_all, hg, rprop_all, hq, ppan_all, ew1, ew2, ew3, ew4, ew5, ew6, ew7, qiq hq, qiq D1.pr, hA, if_true, true_implies, not_true_eq_false, false_implies, and_true, true_and, decide_true]
        refine ⟨great_pre trivial, rprop_pre hs, ppan_pre hs, ppan_pre hs, ppan_pre hs, ppan_pre hs, fun _ => ⟨fun _ => ⟨hsz, fun _ => ⟨awk_pre, rfl⟩, fun h => absurd hmz h⟩, fun h => absurd hz.2 h⟩, fun h => absurd hz.1 h⟩
      | false =>
        have D1 := qip hs hq k a
        have hA := win_add hq k (x := a) (y := b) (.inl ⟨by omega, by omega⟩)
        simp only [Tree.den, E.den, P1.den, P2.den, P3.den, qa, qb, qc, qd, qe, qf, qg, qh, zac, zab, zad, zaa, zae, TV.cell, zah, zai, zag, zaf, qi, qj, qk, ql, qm, qn, ne_eq, qo, qp, forall_eq, qs, qt, Int.reduceToNat, qu, exists_eq_left', great_all, awk_all, hg, rprop_all, hq, ppan_all, ew1, ew2, ew3, ew4, ew5, ew6, ew7, qiq hq, qiq D1.pr, hA, if_true, true_implies, not_true_eq_false, false_implies, and_true, true_and, decide_true]
        refine ⟨great_pre trivial, rprop_pre hs, ppan_pre hs, ppan_pre hs, ppan_pre hs, ppan_pre hs, fun _ => ⟨fun _ => ⟨hsz, fun _ => ⟨awk_pre, rfl⟩, fun h => absurd hmz h⟩, fun h => absurd hz.2 h⟩, fun h => absurd hz.1 h⟩)) rfl
end Go.Proofs.YtgdlkhemopildaaDoor

