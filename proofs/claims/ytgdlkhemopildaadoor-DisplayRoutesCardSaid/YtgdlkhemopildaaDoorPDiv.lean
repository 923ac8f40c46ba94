/- Written by this repo's own program out of its texts. -/
import Derived.Test.YtgdlkhemopildaaDoorPDiu
namespace Go.Proofs.YtgdlkhemopildaaDoor
set_option linter.unusedSimpArgs false
set_option linter.unusedVariables false
set_option linter.unusedSectionVars false
def exL : List Gl := [⟨[97], false, 0⟩, ⟨[98], false, 0⟩, ⟨[99], false, 0⟩, ⟨[100], false, 0⟩, ⟨[101], false, 0⟩, ⟨[102], false, 0⟩, ⟨[103], false, 0⟩, ⟨[104], false, 0⟩]
theorem ex_gl : glErr exL = 0 := by decide +kernel
theorem ex_vg : VG exL := fun g hg => qib (glErr_zero ex_gl g hg)
theorem ex_row : qbi 10 exL = 0 := qbn ex_gl (by decide) (fun h => absurd (congrArg Gl.s h.2) (by decide))
theorem ex_check : qbo 10 1 [exL] 0 5 = 0 := by
  unfold qbo
  rw [if_neg (by decide), if_neg (by decide), if_neg (by decide), if_neg (by decide), if_neg (by decide), if_neg (by decide), qbp, if_pos ex_row]
  rfl
theorem ex_small : SmallV [exL] := ⟨by decide, fun l hl => by
  simp only [List.mem_singleton] at hl
  subst hl
  exact ⟨by decide, by decide⟩⟩
theorem ex_c : brC exL false = [1, 3, 9, 25, 17, 11, 27, 19] := by decide +kernel
theorem ex_s : brS exL false = [0, 1, 2, 3, 4, 5, 6, 7, 8] := by decide +kernel
theorem ex_pl : PL [1, 3, 9, 25, 17, 11, 27, 19] [0, 1, 2, 3, 4, 5, 6, 7, 8] := by
  have := br_PL ex_vg false
  rwa [ex_c, ex_s] at this
theorem ex_cur : curV (rw' [exL] 0) 5 false = 5 := by
  unfold curV
  rw [show rw' [exL] 0 = exL from rfl, ex_c, ex_s, show idxG exL 5 = 5 from by decide]
  unfold zdk
  rw [if_neg (by rintro (h | h | h) <;> first | exact h ex_pl | omega), if_neg (by decide)]
  decide
theorem ex_gly : zb6 (brC exL false) (brS exL false) 7 = 7 := by
  rw [ex_c, ex_s]
  unfold zb6
  rw [if_neg (by rintro (h | h | h) <;> first | exact h ex_pl | omega), if_pos (by decide)]
  decide
theorem qhz {dl : Int} (h0 : 0 ≤ dl) (h1 : dl ≤ 10000) : qhx 4 0 dl 10 1 [exL] 0 5 = true := properD_iff.2 ⟨by decide, by decide, by decide, by decide, h0, h1, ex_check⟩
theorem ex_fol : folT 4 0 0 10 1 [exL] 0 5 false = .agg [.int 4, .int 0, .int 4, .bool true] := by
  unfold folT
  rw [if_pos (qhz (by decide) (by decide)), ex_cur]
  rfl
theorem ex_show : showT 4 0 4 10 1 [exL] 0 5 true false = .agg [ints [17, 11, 27, 19], .int 1] := by
  unfold showT
  rw [if_pos (qhz (by decide) (by decide)), ex_cur, show rw' [exL] (min 0 (1 - 1)) = exL from rfl, ex_c]
  rfl
theorem ex_route : qhy 4 0 4 10 1 [exL] 0 5 false 3 = .agg [.int 0, .int 7, .int 0] := by
  unfold qhy
  rw [if_pos (qhz (by decide) (by decide)), if_neg (by decide), show rw' [exL] (min 0 (1 - 1)) = exL from rfl, show (4 : Int) + 3 = 7 from rfl, ex_gly, if_neg (by decide)]
  rfl
theorem ex_rows : TV.list [TV.list [.agg [.str (List.take (1 - 0) (List.drop 0 [97, 98, 99, 100, 101, 102, 103, 104])), .bool false, .int 0], .agg [.str (List.take (2 - 1) (List.drop 1 [97, 98, 99, 100, 101, 102, 103, 104])), .bool false, .int 0], .agg [.str (List.take (3 - 2) (List.drop 2 [97, 98, 99, 100, 101, 102, 103, 104])), .bool false, .int 0], .agg [.str (List.take (4 - 3) (List.drop 3 [97, 98, 99, 100, 101, 102, 103, 104])), .bool false, .int 0], .agg [.str (List.take (5 - 4) (List.drop 4 [97, 98, 99, 100, 101, 102, 103, 104])), .bool false, .int 0], .agg [.str (List.take (6 - 5) (List.drop 5 [97, 98, 99, 100, 101, 102, 103, 104])), .bool false, .int 0], .agg [.str (List.take (7 - 6) (List.drop 6 [97, 98, 99, 100, 101, 102, 103, 104])), .bool false, .int 0], .agg [.str (List.take (8 - 7) (List.drop 7 [97, 98, 99, 100, 101, 102, 103, 104])), .bool false, .int 0]]] = rowsT [exL] := rfl
theorem ex_new : newT 4 = .agg [.agg [.int 4, .int 0, .int 0, .bool true], .int 0] := by
  unfold newT
  rw [if_neg (by decide)]
def awkL : Law := ⟨fun ts => ts = [], fun ts z₀ => ts = [] → z₀ = .bool true⟩
theorem awk_pre : awkL.pre [] := rfl
theorem awk_fin {z₀ : TV} (h : z₀ = .bool true) : awkL.post [] z₀ := fun _ => h
theorem awk_all {Q : TV → Prop} : (∀ z₀, awkL.post [] z₀ → Q z₀) ↔ Q (.bool true) := ⟨fun h => h _ fun _ => rfl, fun h z₀ hr => by rw [hr rfl]; exact h⟩
theorem awk_c (k : Nat) : Contract Tryd.prog (mkEnv globT []) gtabU (qb2 k) awkL.pre awkL.post := Contract.env (Γ := mkEnv globT [pshowL, pnewL, prouteL, pfollowL]) (contract_law54_awake (fun _ => rfl) (fun s hs => by
    simp only [cx_law54_awake, List.mem_cons, List.not_mem_nil, or_false] at hs
    rcases hs with rfl | rfl | rfl | rfl
    · exact Contract.inEnv rfl (pshow_c 0) rfl
    · exact Contract.inEnv rfl (pnew_c 1) rfl
    · exact Contract.inEnv rfl (proute_c 2) rfl
    · exact Contract.inEnv rfl (pfollow_c 3) rfl) k (by
  rintro ts hl rfl
  have hfin : ∀ z₀ : TV, z₀ = .bool true → awkL.post [] z₀ := fun z₀ hz₀ => awk_fin hz₀
  generalize awkL.post [] = R at hfin ⊢
  unfold tr_law54_awake
  simp only [Tree.den, E.den, P1.den, P2.den, P3.den, qa, qb, qc, qd, qe, qf, qg, qh, zac, zab, zad, zaa, zae, TV.cell, zah, zai, zag, zaf, qi, qj, qk, ql, qm, qn, ne_eq, qo, qp, forall_eq, qs, qt, Int.reduceToNat, qu, exists_eq_left', pnew_all, ex_new, ex_rows, pfollow_all, ex_fol, pshow_all, ex_show, proute_all, ex_route]
  refine ⟨by decide, by decide, by decide, by decide, by decide, by decide, by decide, by decide, pnew_pre trivial, pfollow_pre ex_small, pshow_pre ex_small, proute_pre ex_small, ?_⟩
  simp only [true_implies, not_true_eq_false, false_implies, and_true]
  exact ⟨fun _ => hfin _ rfl, fun h => absurd rfl h⟩)) rfl
theorem showT_form (sz dr dl w h : Int) (rows : List (List Gl)) (r c : Int) (vis k : Bool) : ∃ C a, showT sz dr dl w h rows r c vis k = .agg [ints C, .int a] ∧ C.length ≤ 80 := by
  unfold showT
  split
  · rename_i hq
    have := (properD_iff.1 hq).s2
    exact ⟨_, _, rfl, by rw [showC_len]; omega⟩
  · exact ⟨[], -1, rfl, by decide⟩
theorem folT_pos {sz dr dl w h : Int} {rows : List (List Gl)} {r c : Int} (hq : qhx sz dr dl w h rows r c = true) (k : Bool) : folT sz dr dl w h rows r c k = .agg [.int sz, .int r, .int (curV (rw' rows r) c k / sz * sz), .bool true] := by
  unfold folT
  rw [if_pos hq]
structure FolD (sz w h : Int) (rows : List (List Gl)) (r c : Int) (k : Bool) : Prop where
  pr : qhx sz r (curV (rw' rows r) c k / sz * sz) w h rows r c = true
  d0 : 0 ≤ curV (rw' rows r) c k / sz * sz
  d1 : curV (rw' rows r) c k / sz * sz ≤ curV (rw' rows r) c k
  d2 : curV (rw' rows r) c k < curV (rw' rows r) c k / sz * sz + sz
  c0 : 0 ≤ curV (rw' rows r) c k
  c1 : curV (rw' rows r) c k ≤ 4000
theorem fol_proper {sz dr dl w h : Int} {rows : List (List Gl)} {r c : Int} (hq : qhx sz dr dl w h rows r c = true) (k : Bool) : FolD sz w h rows r c k := by
  have P := properD_iff.1 hq
  have V := proper_view P.ck
  have a1 := P.s1; have a2 := P.s2
  have b1 := V.h1; have b2 := V.h2; have b3 := V.len; have b4 := V.r1; have b5 := V.r2; have b6 := V.c1; have b7 := V.c2; have b8 := V.w2
  have hcu := curV_bd (V.rows _ (rw_mem b4 (by omega))).1 (V.rows _ (rw_mem b4 (by omega))).2 b8 b6 b7 k
  have hd := ediv_le hcu.1 a1
  exact ⟨properD_iff.2 ⟨a1, a2, b4, by omega, hd.2.1, by omega, P.ck⟩, hd.2.1, hd.2.2.1, hd.2.2.2.1, hcu.1, hcu.2⟩
theorem show_fol {sz w h : Int} {rows : List (List Gl)} {r c : Int} {k : Bool} (F : FolD sz w h rows r c k) (hr : r < h) (vis : Bool) :
    showT sz r (curV (rw' rows r) c k / sz * sz) w h rows r c vis k = .agg [ints (showC (brC (rw' rows r) k) sz.toNat (curV (rw' rows r) c k / sz * sz).toNat), .int (if vis = true then curV (rw' rows r) c k - curV (rw' rows r) c k / sz * sz else -1)] := by
  have f1 := F.d0; have f2 := F.d1; have f3 := F.d2
  unfold showT showA
  rw [if_pos F.pr, show min r (h - 1) = r by omega]
  cases vis with
  | true => rw [if_pos ⟨rfl, rfl, by omega, by omega⟩, if_pos rfl]
  | false => rw [if_neg (by rintro ⟨_, h, _⟩; cases h), if_neg (by decide)]
theorem OkA.disp {t : TV} (h : OkA true [.int .i64, .int .i64, .int .i64, .bool] t) : ∃ (sz dr dl : Int) (df : Bool), t = .agg [.int sz, .int dr, .int dl, .bool df] := by
  obtain ⟨us, rfl, hl, h⟩ := h
  match us, hl with
  | [a, b, c, d], _ =>
    have k0 : OkA false [.int .i64] a := ⟨_, rfl, h 0 _ a rfl rfl⟩
    have k1 : OkA false [.int .i64] b := ⟨_, rfl, h 1 _ b rfl rfl⟩
    have k2 : OkA false [.int .i64] c := ⟨_, rfl, h 2 _ c rfl rfl⟩
    have k3 : OkA false [.bool] d := ⟨_, rfl, h 3 _ d rfl rfl⟩
    obtain ⟨a, rfl, _⟩ := k0.int
    obtain ⟨b, rfl, _⟩ := k1.int
    obtain ⟨c, rfl, _⟩ := k2.int
    obtain ⟨d, rfl⟩ := k3.bool
    exact ⟨a, b, c, d, rfl⟩
theorem OkT.rowsT {t : TV} (h : OkT (.slice false [.slice true [.str, .bool, .int .i64]]) t) : ∃ rows, t = Proofs.YtgdlkhemopildaaDoor.rowsT rows := by
  cases h with
  | row _ l _ h' =>
    have key : ∀ x ∈ l, ∃ g, x = glsT g := fun x hx => by
      obtain ⟨g, rfl, _⟩ := OkA.gls (t := x) ⟨_, rfl, h' x hx⟩
      exact ⟨g, rfl⟩
    have : ∀ l : List TV, (∀ x ∈ l, ∃ g, x = glsT g) → ∃ rows : List (List Gl), l = rows.map glsT := by
      intro l
      induction l with
      | nil => intro _; exact ⟨[], rfl⟩
      | cons x l ih =>
        intro h
        obtain ⟨g, rfl⟩ := h x List.mem_cons_self
        obtain ⟨rows, rfl⟩ := ih fun y hy => h y (List.mem_cons_of_mem _ hy)
        exact ⟨g :: rows, rfl⟩
    obtain ⟨rows, rfl⟩ := this l key
    exact ⟨rows, rfl⟩
theorem OkA.view {t : TV} (h : OkA true [.int .i64, .int .i64, .slice false [.slice true [.str, .bool, .int .i64]], .int .i64, .int .i64, .bool] t) : ∃ (w h : Int) (rows : List (List Gl)) (r c : Int) (vis : Bool), t = .agg [.int w, .int h, rowsT rows, .int r, .int c, .bool vis] := by
  obtain ⟨us, rfl, hl, h⟩ := h
  match us, hl with
  | [a, b, rs, c, d, e], _ =>
    have k0 : OkA false [.int .i64] a := ⟨_, rfl, h 0 _ a rfl rfl⟩
    have k1 : OkA false [.int .i64] b := ⟨_, rfl, h 1 _ b rfl rfl⟩
    have k2 : OkT (.slice false [.slice true [.str, .bool, .int .i64]]) rs := h 2 _ rs rfl rfl
    have k3 : OkA false [.int .i64] c := ⟨_, rfl, h 3 _ c rfl rfl⟩
    have k4 : OkA false [.int .i64] d := ⟨_, rfl, h 4 _ d rfl rfl⟩
    have k5 : OkA false [.bool] e := ⟨_, rfl, h 5 _ e rfl rfl⟩
    obtain ⟨a, rfl, _⟩ := k0.int
    obtain ⟨b, rfl, _⟩ := k1.int
    obtain ⟨rs, rfl⟩ := k2.rowsT
    obtain ⟨c, rfl, _⟩ := k3.int
    obtain ⟨d, rfl, _⟩ := k4.int
    obtain ⟨e, rfl⟩ := k5.bool
    exact ⟨a, b, rs, c, d, e, rfl⟩
def dvbiP (ts : List TV) : Prop := ∃ (sz dr dl : Int) (df : Bool) (w h : Int) (rows : List (List Gl)) (r c : Int) (vis k : Bool) (x : Int), ts = [.agg [.int sz, .int dr, .int dl, .bool df], .agg [.int w, .int h, rowsT rows, .int r, .int c, .bool vis], .bool k, .int x]
theorem dvbiP_of {k : IntKind} {t0 t1 t2 t3 : TV} (h0 : OkA true [.int .i64, .int .i64, .int .i64, .bool] t0) (h1 : OkA true [.int .i64, .int .i64, .slice false [.slice true [.str, .bool, .int .i64]], .int .i64, .int .i64, .bool] t1) (h2 : OkA false [.bool] t2) (h3 : OkA false [.int k] t3) : dvbiP [t0, t1, t2, t3] := by
  obtain ⟨sz, dr, dl, df, rfl⟩ := h0.disp
  obtain ⟨w, h, rows, r, c, vis, rfl⟩ := h1.view
  obtain ⟨b, rfl⟩ := h2.bool
  obtain ⟨x, rfl, _, _⟩ := h3.int
  exact ⟨sz, dr, dl, df, w, h, rows, r, c, vis, b, x, rfl⟩
theorem lawShow_c (k : Nat) : Contract Tryd.prog (mkEnv globT []) gtabU (qdy k) (trueL dvbiP).pre (trueL dvbiP).post := Contract.env (Γ := mkEnv globT [greatL, pshowL, pnewL, prouteL, rshowL, rnewL, rrouteL, scellL, awkL]) (contract_law54_DisplayShow (fun _ => rfl) (fun s hs => by
    simp only [cx_law54_DisplayShow, List.mem_cons, List.not_mem_nil, or_false] at hs
    rcases hs with rfl | rfl | rfl | rfl | rfl | rfl | rfl | rfl | rfl
    · exact Contract.inEnv rfl (great_c 0) rfl
    · exact Contract.inEnv rfl (pshow_c 1) rfl
    · exact Contract.inEnv rfl (pnew_c 2) rfl
    · exact Contract.inEnv rfl (proute_c 3) rfl
    · exact Contract.inEnv rfl (rshow_c 4) rfl
    · exact Contract.inEnv rfl (rnew_c 5) rfl
    · exact Contract.inEnv rfl (rroute_c 6) rfl
    · exact Contract.inEnv rfl (scell_c 7) rfl
    · exact Contract.inEnv rfl (awk_c 8) rfl) k (by
  rintro ts hl ⟨sz, dr, dl, df, w, h, rows, r, c, vis, k, x, rfl⟩
  unfold tr_law54_DisplayShow
  cases hg : qby w rows with
  | true =>
    simp only [Tree.den, E.den, P1.den, P2.den, P3.den, qa, qb, qc, qd, qe, qf, qg, qh, zac, zab, zad, zaa, zae, TV.cell, zah, zai, zag, zaf, qi, qj, qk, ql, qm, qn, ne_eq, qo, qp, forall_eq, qs, qt, Int.reduceToNat, qu, exists_eq_left', great_all, awk_all, hg]
    exact ⟨great_pre trivial, fun _ => ⟨awk_pre, rfl⟩, False.elim⟩
  | false =>
    have hs := (small_view hg).1
    obtain ⟨C, a, hC, hCl⟩ := showT_form sz dr dl w h rows r c vis k
    simp only [Tree.den, E.den, P1.den, P2.den, P3.den, qa, qb, qc, qd, qe, qf, qg, qh, zac, zab, zad, zaa, zae, TV.cell, zah, zai, zag, zaf, qi, qj, qk, ql, qm, qn, ne_eq, qo, qp, forall_eq, qs, qt, Int.reduceToNat, qu, exists_eq_left', great_all, awk_all, hg, pshow_all, pnew_all, proute_all, rshow_all, rnew_all, rroute_all, hC, scell_all, if_true, true_implies, not_true_eq_false, false_implies, and_true, decide_true]
    exact ⟨great_pre trivial, trivial, pshow_pre hs, rshow_pre hs, proute_pre hs, rroute_pre hs, pnew_pre trivial, rnew_pre trivial, scell_pre (by omega), awk_pre, rfl⟩)) rfl
def dvbP (ts : List TV) : Prop := ∃ (sz dr dl : Int) (df : Bool) (w h : Int) (rows : List (List Gl)) (r c : Int) (vis k : Bool), ts = [.agg [.int sz, .int dr, .int dl, .bool df], .agg [.int w, .int h, rowsT rows, .int r, .int c, .bool vis], .bool k]
theorem dvbP_of {t0 t1 t2 : TV} (h0 : OkA true [.int .i64, .int .i64, .int .i64, .bool] t0) (h1 : OkA true [.int .i64, .int .i64, .slice false [.slice true [.str, .bool, .int .i64]], .int .i64, .int .i64, .bool] t1) (h2 : OkA false [.bool] t2) : dvbP [t0, t1, t2] := by
  obtain ⟨sz, dr, dl, df, rfl⟩ := h0.disp
  obtain ⟨w, h, rows, r, c, vis, rfl⟩ := h1.view
  obtain ⟨b, rfl⟩ := h2.bool
  exact ⟨sz, dr, dl, df, w, h, rows, r, c, vis, b, rfl⟩
theorem lawFollows_c (k : Nat) : Contract Tryd.prog (mkEnv globT []) gtabU (qc4 k) (trueL dvbP).pre (trueL dvbP).post := Contract.env (Γ := mkEnv globT [greatL, pshowL, pfollowL, rpropL, awkL]) (qf0 (fun _ => rfl) (fun s hs => by
    simp only [cx_law54_DisplayFollows, List.mem_cons, List.not_mem_nil, or_false] at hs
    rcases hs with rfl | rfl | rfl | rfl | rfl
    · exact Contract.inEnv rfl (great_c 0) rfl
    · exact Contract.inEnv rfl (pshow_c 1) rfl
    · exact Contract.inEnv rfl (pfollow_c 2) rfl
    · exact Contract.inEnv rfl (rprop_c 3) rfl
    · exact Contract.inEnv rfl (awk_c 4) rfl) k (by
  rintro ts hl ⟨sz, dr, dl, df, w, h, rows, r, c, vis, k, rfl⟩
  unfold tr_law54_DisplayFollows
  cases hg : qby w rows with
  | true =>
    simp only [Tree.den, E.den, P1.den, P2.den, P3.den, qa, qb, qc, qd, qe, qf, qg, qh, zac, zab, zad, zaa, zae, TV.cell, zah, zai, zag, zaf, qi, qj, qk, ql, qm, qn, ne_eq, qo, qp, forall_eq, qs, qt, Int.reduceToNat, qu, exists_eq_left', great_all, awk_all, hg]
    exact ⟨great_pre trivial, fun _ => ⟨awk_pre, rfl⟩, False.elim⟩
  | false =>
    have hs := (small_view hg).1
    cases hq : qhx sz dr dl w h rows r c with
    | false =>
      simp only [Tree.den, E.den, P1.den, P2.den, P3.den, qa, qb, qc, qd, qe, qf, qg, qh, zac, zab, zad, zaa, zae, TV.cell, zah, zai, zag, zaf, qi, qj, qk, ql, qm, qn, ne_eq, qo, qp, forall_eq, qs, qt, Int.reduceToNat, qu, exists_eq_left', great_all, awk_all, hg, rprop_all, hq]
      exact ⟨great_pre trivial, False.elim, fun _ => ⟨rprop_pre hs, fun _ => ⟨awk_pre, rfl⟩, fun h => absurd h (by simp)⟩⟩
    | true =>
      have F := fol_proper hq k
      have P := properD_iff.1 hq
      have V := proper_view P.ck
      have a1 := P.s1; have a2 := P.s2; have b5 := V.r2
      have f1 := F.d0; have f2 := F.d1; have f3 := F.d2
      simp only [Tree.den, E.den, P1.den, P2.den, P3.den, qa, qb, qc, qd, qe, qf, qg, qh, zac, zab, zad, zaa, zae, TV.cell, zah, zai, zag, zaf, qi, qj, qk, ql, qm, qn, ne_eq, qo, qp, forall_eq, qs, qt, Int.reduceToNat, qu, exists_eq_left', great_all, awk_all, hg, rprop_all, hq, pfollow_all, folT_pos hq, pshow_all, show_fol F b5, folT_pos F.pr, if_true, true_implies, not_true_eq_false, false_implies, and_true, decide_true]
      have hlen : (((ints (showC (brC (rw' rows r) k) sz.toNat (curV (rw' rows r) c k / sz * sz).toNat)).asList.length : Nat) : Int) = sz := by
        rw [ints, TV.asList, List.length_map, showC_len]
        omega
      have hat : decide (0 ≤ if vis = true then curV (rw' rows r) c k - curV (rw' rows r) c k / sz * sz else -1) = vis := by
        cases vis with
        | true => rw [if_pos rfl, decide_eq_true (by omega)]
        | false => rw [if_neg (by decide)]; rfl
      simp only [hlen, hat, not_true_eq_false, false_implies, true_implies, true_and]
      exact ⟨great_pre trivial, rprop_pre hs, pfollow_pre hs, pshow_pre hs, fun hb => absurd hb (by split <;> omega), fun _ => ⟨pfollow_pre hs, awk_pre, rfl⟩⟩)) rfl
theorem qh1 (g : Int) : colV [] g = max 0 g := by
  unfold colV
  rw [List.take_nil]
  simp only [widG, List.length_nil]
  omega
theorem qh2 {l : List Gl} {g : Int} (h : g ≤ 0) : colV l g = 0 := by
  unfold colV
  rw [show (min g (l.length : Int)).toNat = 0 by omega, List.take_zero]
  simp only [widG]
  omega
theorem qh0 {x : Gl} {l : List Gl} {g : Int} (h : 1 ≤ g) : colV (x :: l) g = wd x + colV l (g - 1) := by
  unfold colV
  rw [show (min g ((x :: l).length : Int)).toNat = (min (g - 1) (l.length : Int)).toNat + 1 by rw [List.length_cons]; omega, List.take_succ_cons]
  simp only [widG, List.length_cons]
  omega
theorem idx_col : ∀ (l : List Gl) (at' g : Int) (i : Nat), 0 ≤ g → idxR l (at' + colV l g) at' i = i + g
  | [], at', g, i, h => by rw [qh1, idxR]; omega
  | x :: l, at', g, i, h => by
    have hw := wd_bd x
    by_cases h1 : 1 ≤ g
    · have hc := colV_bd (l := l) (g := g - 1) (by omega)
      have ih := idx_col l (at' + wd x) (g - 1) (i + 1) (by omega)
      rw [qh0 h1, idxR, if_neg (by omega), show at' + (wd x + colV l (g - 1)) = at' + wd x + colV l (g - 1) by omega, ih]
      omega
    · rw [qh2 (by omega), idxR, if_pos (by omega)]
      omega
theorem idxG_col {l : List Gl} {g : Int} (h : 0 ≤ g) : idxG l (colV l g) = g := by
  have hc := colV_bd (l := l) h
  have := idx_col l 0 g 0 h
  unfold idxG
  rw [if_neg (by omega), show colV l g = 0 + colV l g by omega, this]
  omega
theorem col_idx : ∀ (l : List Gl) (col at' : Int) (i : Nat), at' ≤ col → at' + colV l (idxR l col at' i - i) ≤ col
  | [], col, at', i, h => by rw [qh1, idxR]; omega
  | x :: l, col, at', i, h => by
    have hw := wd_bd x
    rw [idxR]
    split
    · rw [qh2 (by omega)]; omega
    · have ih := col_idx l col (at' + wd x) (i + 1) (by omega)
      have hb := idxR_bd l col (at' + wd x) (i + 1) (by omega)
      rw [qh0 (by omega), show idxR l col (at' + wd x) (i + 1) - (i : Int) - 1 = idxR l col (at' + wd x) (i + 1) - ((i + 1 : Nat) : Int) by omega]
      omega
theorem col_idxG {l : List Gl} {col : Int} (h : 0 ≤ col) : colV l (idxG l col) ≤ col := by
  have := col_idx l col 0 0 h
  unfold idxG
  rw [if_neg (by omega)]
  rw [show idxR l col 0 0 - ((0 : Nat) : Int) = idxR l col 0 0 by omega] at this
  omega
theorem colV_mono : ∀ (l : List Gl) (g g' : Int), g ≤ g' → colV l g ≤ colV l g'
  | [], g, g', h => by rw [qh1, qh1]; omega
  | x :: l, g, g', h => by
    have hw := wd_bd x
    by_cases h1 : 1 ≤ g
    · have := colV_mono l (g - 1) (g' - 1) (by omega)
      rw [qh0 h1, qh0 (by omega)]
      omega
    · rw [qh2 (by omega)]
      by_cases h2 : 1 ≤ g'
      · have := colV_bd (l := l) (g := g' - 1) (by omega)
        rw [qh0 h2]; omega
      · rw [qh2 (by omega)]; omega
theorem fr_pos {g : Gl} (h : glyZ g = 0) : 1 ≤ (fr1 g).length := by
  unfold glyZ at h
  split at h
  · omega
  · rename_i h1
    have hc := check_iff.1 (Classical.byContradiction h1)
    have hl := hc.2.len
    unfold fr1
    rw [show Go.Proofs.YtgdlkhemopildaaDoor.fin (bs g.s) = zbj g.s from by unfold zbj; exact (zej hc.1).2.2.2]
    omega
theorem rep_fst (n : Nat) (l : List Int) (h : 1 ≤ n) : (List.replicate n (0 : Int) ++ l).getD 0 0 = 0 := by
  obtain ⟨m, rfl⟩ : ∃ m, n = m + 1 := ⟨n - 1, by omega⟩
  rfl
theorem cells_pos {l : List Int} (h : 1 ≤ l.length) : 1 ≤ (za8 l).length := by
  obtain ⟨r, rs, rfl⟩ : ∃ r rs, l = r :: rs := by
    cases l with
    | nil => simp at h
    | cons r rs => exact ⟨r, rs, rfl⟩
  have h1 : 1 ≤ (oneZ r).length := by unfold oneZ; split <;> simp [escZ]
  unfold za8
  rw [List.flatMap_cons, List.length_append]
  omega
theorem br_first {l : List Gl} (h : ∀ g ∈ l, glyZ g = 0) (hne : 0 < l.length) (k : Bool) : 1 ≤ (brC l k).length ∧ (brS l k).getD 0 0 = 0 := by
  obtain ⟨g, m, rfl⟩ : ∃ g m, l = g :: m := by
    cases l with
    | nil => simp at hne
    | cons r rs => exact ⟨r, rs, rfl⟩
  have hg := h g List.mem_cons_self
  have hp := fr_pos hg
  have hv : VG (g :: m) := fun g hg => qib (h g hg)
  have app0 : ∀ a b : List Int, 1 ≤ a.length → (a ++ b).getD 0 0 = a.getD 0 0 := fun a b ha => by
    rw [List.getD_eq_getElem?_getD, List.getD_eq_getElem?_getD, List.getElem?_append_left (by omega)]
  cases k with
  | false =>
    have hc : 1 ≤ (cg g).length := cells_pos hp
    have e1 : brC (g :: m) false = cg g ++ zbt m := rfl
    have e2 : brS (g :: m) false = (List.replicate (cg g).length ((0 : Nat) : Int) ++ srcG (fun g => (cg g).length) 1 m) ++ [((g :: m).length : Int)] := rfl
    refine ⟨by rw [e1, List.length_append]; omega, ?_⟩
    rw [e2, List.append_assoc]
    exact rep_fst _ _ hc
  | true =>
    have e1 : brC (g :: m) true = cellsOf (zay (zbg (g :: m))) := rfl
    have e2 : brS (g :: m) true = (fromZ 0 (zay (zbg (g :: m)))).map (ownF (srcG ng 0 (g :: m))) ++ [((g :: m).length : Int)] := rfl
    have hd := zbu (zbg (g :: m))
    have hr : 1 ≤ (zbg (g :: m)).length := by
      rw [zf8 hv, List.flatMap_cons, List.length_append]; omega
    rw [e1, e2]
    generalize zbg (g :: m) = rw0 at *
    generalize zay rw0 = us at *
    cases hd with
    | nil => simp at hr
    | @cons _ n c us h1 t =>
      have hcl := ziw h1
      refine ⟨by rw [za6, List.length_append]; omega, ?_⟩
      rw [fromZ, List.map_append, List.append_assoc, app0 _ _ (by rw [List.length_map, List.length_replicate]; omega), List.map_replicate]
      obtain ⟨q, hq⟩ : ∃ q, c.length = q + 1 := ⟨c.length - 1, by omega⟩
      rw [hq]
      show ownF (srcG ng 0 (g :: m)) ((0 : Nat) : Int) = 0
      unfold ownF
      rw [zc1]
      exact rep_fst _ _ hp
theorem bestN_lt (s : List Int) (g : Int) : ∀ {n : Nat}, 0 < n → bestN s g n < n
  | n + 1, _ => by
    unfold bestN
    split
    · omega
    · have := bestN_le s g n; omega
theorem bestN_good {s : List Int} {g : Int} (h : s.getD 0 0 ≤ g) : ∀ n, s.getD (bestN s g n) 0 ≤ g
  | 0 => h
  | n + 1 => by
    unfold bestN
    split
    · rename_i hc; exact hc.1
    · exact bestN_good h n
theorem gly_cell {l : List Gl} (h : ∀ g ∈ l, glyZ g = 0) (k : Bool) {g : Int} (h0 : 0 ≤ g) (h1 : g ≤ 1000) (hl : l.length ≤ 1000) : 0 ≤ zdk (brC l k) (brS l k) g ∧ zb6 (brC l k) (brS l k) (zdk (brC l k) (brS l k) g) ≤ g := by
  have hv : VG l := fun g hg => qib (h g hg)
  have hP := br_PL hv k
  have hlast := z1c l k
  have h28 := br28 h k
  have hc : zdk (brC l k) (brS l k) g = if (l.length : Int) ≤ g then ((brC l k).length : Int) + g - l.length else bestN (brS l k) g (brC l k).length := by
    unfold zdk
    rw [if_neg (by rintro (e | e | e) <;> first | exact e hP | omega), hlast]
  rw [hc]
  split
  · refine ⟨by omega, ?_⟩
    rcases glyphAt_br hv k (i := ((brC l k).length : Int) + g - l.length) (by omega) (by omega) (by omega) with ⟨a, b, _, _⟩ | ⟨a, b⟩
    · omega
    · rw [b]; omega
  · have hf := br_first h (by omega) k
    have hlt := bestN_lt (brS l k) g (n := (brC l k).length) (by omega)
    refine ⟨by omega, ?_⟩
    rcases glyphAt_br hv k (i := (bestN (brS l k) g (brC l k).length : Int)) (by omega) (by omega) (by omega) with ⟨a, b, _, _⟩ | ⟨a, b⟩
    · rw [b, Int.toNat_natCast]
      exact bestN_good (by rw [hf.2]; exact h0) _
    · omega
theorem route_fol {sz w h : Int} {rows : List (List Gl)} {r c : Int} {k : Bool} (F : FolD sz w h rows r c k) (hr : r < h) {i : Int} (h0 : 0 ≤ i) (h1 : i < sz) :
    qhy sz r (curV (rw' rows r) c k / sz * sz) w h rows r c k i = if w ≤ colV (rw' rows r) (zb6 (brC (rw' rows r) k) (brS (rw' rows r) k) (curV (rw' rows r) c k / sz * sz + i)) then .agg [.int 0, .int 0, .int 2] else
      .agg [.int r, .int (colV (rw' rows r) (zb6 (brC (rw' rows r) k) (brS (rw' rows r) k) (curV (rw' rows r) c k / sz * sz + i))), .int 0] := by
  unfold qhy
  rw [if_pos F.pr, show min r (h - 1) = r by omega, if_neg (by omega)]
def RtI (sz : Int) (xs : List TV) : Prop := ∃ i : Nat, xs = [.int i] ∧ i ≤ sz
def Rtm (sz : Int) (xs : List TV) : Nat := sz.toNat - (xs.getD 0 (.int 0)).asInt.toNat
theorem rtm_i (sz : Int) (i : Nat) : Rtm sz [.int (i : Int)] = sz.toNat - i := congrArg (sz.toNat - ·) (Int.toNat_natCast i)
theorem lawRoutes_c (k : Nat) : Contract Tryd.prog (mkEnv globT []) gtabU (qde k) (trueL dvbP).pre (trueL dvbP).post := Contract.env (Γ := mkEnv globT [rofL, rcellL, rglyphL, greatL, ridxL, prouteL, pfollowL, rpropL, awkL]) (qgo (fun _ => rfl) (fun s hs => by
    simp only [cx_law54_DisplayRoutes, List.mem_cons, List.not_mem_nil, or_false] at hs
    rcases hs with rfl | rfl | rfl | rfl | rfl | rfl | rfl | rfl | rfl
    · exact Contract.inEnv rfl ((rof_c 0).gt za3) rfl
    · exact Contract.inEnv rfl ((rcell_c 1).gt za3) rfl
    · exact Contract.inEnv rfl ((rglyph_c 2).gt za3) rfl
    · exact Contract.inEnv rfl (great_c 3) rfl
    · exact Contract.inEnv rfl (ridx_c 4) rfl
    · exact Contract.inEnv rfl (proute_c 5) rfl
    · exact Contract.inEnv rfl (pfollow_c 6) rfl
    · exact Contract.inEnv rfl (rprop_c 7) rfl
    · exact Contract.inEnv rfl (awk_c 8) rfl) k (by
  rintro ts hl ⟨sz, dr, dl, df, w, h, rows, r, c, vis, k, rfl⟩
  unfold tr_law54_DisplayRoutes
  cases hg : qby w rows with
  | true =>
    simp only [Tree.den, E.den, P1.den, P2.den, P3.den, qa, qb, qc, qd, qe, qf, qg, qh, zac, zab, zad, zaa, zae, TV.cell, zah, zai, zag, zaf, qi, qj, qk, ql, qm, qn, ne_eq, qo, qp, forall_eq, qs, qt, Int.reduceToNat, qu, exists_eq_left', great_all, awk_all, hg]
    exact ⟨great_pre trivial, fun _ => ⟨awk_pre, rfl⟩, False.elim⟩
  | false =>
    have hs := (small_view hg).1
    cases hq : qhx sz dr dl w h rows r c with
    | false =>
      simp only [Tree.den, E.den, P1.den, P2.den, P3.den, qa, qb, qc, qd, qe, qf, qg, qh, zac, zab, zad, zaa, zae, TV.cell, zah, zai, zag, zaf, qi, qj, qk, ql, qm, qn, ne_eq, qo, qp, forall_eq, qs, qt, Int.reduceToNat, qu, exists_eq_left', great_all, awk_all, hg, rprop_all, hq]
      exact ⟨great_pre trivial, False.elim, fun _ => ⟨rprop_pre hs, fun _ => ⟨awk_pre, rfl⟩, fun h => absurd h (by simp)⟩⟩
    | true =>
      have e : ∀ l k, brT l k = .agg [ints (brC l k), ints (brS l k)] := fun _ _ => rfl
      have F := fol_proper hq k
      have P := properD_iff.1 hq
      have V := proper_view P.ck
      have a1 := P.s1; have a2 := P.s2; have b3 := V.len; have b4 := V.r1; have b5 := V.r2
      have f1 := F.d0; have f2 := F.d1; have f3 := F.d2
      simp only [Tree.den, E.den, P1.den, P2.den, P3.den, qa, qb, qc, qd, qe, qf, qg, qh, zac, zab, zad, zaa, zae, TV.cell, zah, zai, zag, zaf, qi, qj, qk, ql, qm, qn, ne_eq, qo, qp, forall_eq, qs, qt, Int.reduceToNat, qu, exists_eq_left', great_all, awk_all, hg, rprop_all, hq, pfollow_all, folT_pos hq, qbj, qbh, List.length_map, qh9 b4 (show r < rows.length by omega), rof_all, e, ridx_all, zwc, zr3, proute_all, if_true, true_implies, not_true_eq_false, false_implies, and_true, decide_true]
      have hsr := hs.2 _ (rw_mem b4 (show r < rows.length by omega))
      have hwd := qh5 hsr
      have hl := hsr.1
      have V1 := V.rows _ (rw_mem b4 (show r < rows.length by omega))
      have hv := V.vg (rw_mem b4 (show r < rows.length by omega))
      have b6 := V.c1; have b7 := V.c2; have b8 := V.w2
      have hcb := z1x (rw' rows r) k
      have hsb := zym (rw' rows r) k
      have h28 := br28 V1.1 k
      have hix := idxG_bd (l := rw' rows r) b6
      have hgc := gly_cell V1.1 k hix.1 (by omega) (by omega)
      have hcc := col_idxG (l := rw' rows r) b6
      have c0 := F.c0; have c1 := F.c1
      have hcur : curV (rw' rows r) c k = zdk (brC (rw' rows r) k) (brS (rw' rows r) k) (idxG (rw' rows r) c) := rfl
      refine ⟨great_pre trivial, trivial, rprop_pre hs, trivial, pfollow_pre hs, trivial, fun hb => absurd hb (by omega), fun _ => ⟨fun hb => absurd hb (by omega), fun _ => ⟨fun hb => absurd hb (by omega), fun _ => ⟨b4, by omega, rof_pre ⟨by omega, by omega, hv⟩, ridx_pre ⟨by omega, by omega⟩, z9f ⟨by omega, by omega⟩, RtI sz, Rtm sz, ⟨0, rfl, by omega⟩, ?_⟩⟩⟩⟩
      rintro xs _ ⟨i, rfl, hi⟩
      rw [← hcur]
      by_cases hlt : (i : Int) < sz
      · have hr := route_fol F b5 (show (0 : Int) ≤ i by omega) hlt
        have e1 : IntKind.wrap .i64 ((i : Int) + 1) = ((i + 1 : Nat) : Int) := by rw [wrap_i64 (by omega) (by omega)]; omega
        have e2 : IntKind.wrap .i64 (curV (rw' rows r) c k / sz * sz + i) = curV (rw' rows r) c k / sz * sz + i := wrap_i64 (by omega) (by omega)
        have hg := glyphAt_bd hv k (i := curV (rw' rows r) c k / sz * sz + i) (by omega) (by omega) (by omega)
        by_cases hw : w ≤ colV (rw' rows r) (zb6 (brC (rw' rows r) k) (brS (rw' rows r) k) (curV (rw' rows r) c k / sz * sz + i))
        · rw [if_pos hw] at hr
          have hno : ¬ curV (rw' rows r) c k / sz * sz + i = curV (rw' rows r) c k := fun he => by
            rw [he] at hw
            have := colV_mono (rw' rows r) _ _ hgc.2
            rw [← hcur] at this
            omega
          simp only [Tree.den, E.den, P1.den, P2.den, P3.den, qa, qb, qc, qd, qe, qf, qg, qh, zac, zab, zad, zaa, zae, TV.cell, zah, zai, zag, zaf, qi, qj, qk, ql, qm, qn, ne_eq, qo, qp, forall_eq, qs, qt, Int.reduceToNat, qu, exists_eq_left', proute_all, hr, e1, e2, List.cons_append, List.nil_append, rtm_i]
          simp only [true_implies, not_true_eq_false, false_implies, true_and]
          exact ⟨fun _ => ⟨proute_pre hs, fun _ => ⟨fun he => absurd he hno, fun _ => ⟨⟨i + 1, rfl, by omega⟩, by omega⟩⟩, fun h2 => absurd h2 (by decide)⟩, fun hn => absurd hlt hn⟩
        · rw [if_neg hw] at hr
          have hcol := colV_bd (l := rw' rows r) hg.1
          simp only [Tree.den, E.den, P1.den, P2.den, P3.den, qa, qb, qc, qd, qe, qf, qg, qh, zac, zab, zad, zaa, zae, TV.cell, zah, zai, zag, zaf, qi, qj, qk, ql, qm, qn, ne_eq, qo, qp, forall_eq, qs, qt, Int.reduceToNat, qu, exists_eq_left', proute_all, hr, e1, e2, List.cons_append, List.nil_append, rtm_i, ridx_all, idxG_col hg.1, zr3]
          simp only [true_implies, not_true_eq_false, false_implies, true_and]
          have go : RtI sz [TV.int ((i + 1 : Nat) : Int)] ∧ sz.toNat - (i + 1) < sz.toNat - i := ⟨⟨i + 1, rfl, by omega⟩, by omega⟩
          exact ⟨fun _ => ⟨proute_pre hs, ridx_pre ⟨by omega, by omega⟩, fun h1 => absurd h1 (by omega), fun _ => ⟨fun h1 => absurd h1 hw, fun _ => ⟨z4m ⟨by omega, by omega⟩, fun he => ⟨fun h2 => by
            have h3 := hgc.2
            rw [← hcur, ← he] at h3
            omega, fun _ => go⟩, fun _ => go⟩⟩⟩, fun hn => absurd hlt hn⟩
      · simp only [Tree.den, E.den, P1.den, P2.den, P3.den, qa, qb, qc, qd, qe, qf, qg, qh, zac, zab, zad, zaa, zae, TV.cell, zah, zai, zag, zaf, qi, qj, qk, ql, qm, qn, ne_eq, qo, qp, forall_eq, qs, qt, Int.reduceToNat, qu, exists_eq_left', List.cons_append, List.nil_append]
        exact ⟨fun hn => absurd hn hlt, fun _ => ⟨awk_pre, rfl⟩⟩)) rfl
end Go.Proofs.YtgdlkhemopildaaDoor

