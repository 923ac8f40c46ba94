/- Written by this repo's own program out of its texts. -/
import Derived.Test.YtgdlkhemopildaaDoorSDiu
namespace Go.Proofs.YtgdlkhemopildaaDoor
set_option linter.unusedSimpArgs false
set_option linter.unusedVariables false
set_option linter.unusedSectionVars false
def exL : List Gl := [⟨[97], false, 0⟩, ⟨[98], false, 0⟩, ⟨[99], false, 0⟩, ⟨[100], false, 0⟩, ⟨[101], false, 0⟩, ⟨[102], false, 0⟩, ⟨[103], false, 0⟩, ⟨[104], false, 0⟩]
theorem ex_gl : glErr exL = 0 := by decide +kernel
theorem ex_vg : VG exL := fun g hg => qib (glErr_zero ex_gl g hg)
theorem ex_row : qbi 10 exL = 0 := qbn ex_gl (by decide) (fun h => absurd (congrArg Gl.s h.2) (by decide))
theorem ex_check : qbo 10 1 [exL] 0 5 = 0 := by
  unfold qbo
  rw [if_neg (by decide), if_neg (by decide), if_neg (by decide), if_neg (by decide), if_neg (by decide), if_neg (by decide), qbp, if_pos ex_row]
  rfl
theorem ex_small : SmallV [exL] := ⟨by decide, fun l hl => by
  simp only [List.mem_singleton] at hl
  subst hl
  exact ⟨by decide, by decide⟩⟩
theorem ex_c : brC exL false = [1, 3, 9, 25, 17, 11, 27, 19] := by decide +kernel
theorem ex_s : brS exL false = [0, 1, 2, 3, 4, 5, 6, 7, 8] := by decide +kernel
theorem ex_pl : PL [1, 3, 9, 25, 17, 11, 27, 19] [0, 1, 2, 3, 4, 5, 6, 7, 8] := by
  have := br_PL ex_vg false
  rwa [ex_c, ex_s] at this
theorem ex_cur : curV (rw' [exL] 0) 5 false = 5 := by
  unfold curV
  rw [show rw' [exL] 0 = exL from rfl, ex_c, ex_s, show idxG exL 5 = 5 from by decide]
  unfold zdk
  rw [if_neg (by rintro (h | h | h) <;> first | exact h ex_pl | omega), if_neg (by decide)]
  decide
theorem ex_gly : zb6 (brC exL false) (brS exL false) 7 = 7 := by
  rw [ex_c, ex_s]
  unfold zb6
  rw [if_neg (by rintro (h | h | h) <;> first | exact h ex_pl | omega), if_pos (by decide)]
  decide
theorem qhz {dl : Int} (h0 : 0 ≤ dl) (h1 : dl ≤ 10000) : qhx 4 0 dl 10 1 [exL] 0 5 = true := properD_iff.2 ⟨by decide, by decide, by decide, by decide, h0, h1, ex_check⟩
theorem ex_fol : folT 4 0 0 10 1 [exL] 0 5 false = .agg [.int 4, .int 0, .int 4, .bool true] := by
  unfold folT
  rw [if_pos (qhz (by decide) (by decide)), ex_cur]
  rfl
theorem ex_show : showT 4 0 4 10 1 [exL] 0 5 true false = .agg [ints [17, 11, 27, 19], .int 1] := by
  unfold showT
  rw [if_pos (qhz (by decide) (by decide)), ex_cur, show rw' [exL] (min 0 (1 - 1)) = exL from rfl, ex_c]
  rfl
theorem ex_route : qhy 4 0 4 10 1 [exL] 0 5 false 3 = .agg [.int 0, .int 7, .int 0] := by
  unfold qhy
  rw [if_pos (qhz (by decide) (by decide)), if_neg (by decide), show rw' [exL] (min 0 (1 - 1)) = exL from rfl, show (4 : Int) + 3 = 7 from rfl, ex_gly, if_neg (by decide)]
  rfl
theorem ex_rows : TV.list [TV.list [.agg [.str (List.take (1 - 0) (List.drop 0 [97, 98, 99, 100, 101, 102, 103, 104])), .bool false, .int 0], .agg [.str (List.take (2 - 1) (List.drop 1 [97, 98, 99, 100, 101, 102, 103, 104])), .bool false, .int 0], .agg [.str (List.take (3 - 2) (List.drop 2 [97, 98, 99, 100, 101, 102, 103, 104])), .bool false, .int 0], .agg [.str (List.take (4 - 3) (List.drop 3 [97, 98, 99, 100, 101, 102, 103, 104])), .bool false, .int 0], .agg [.str (List.take (5 - 4) (List.drop 4 [97, 98, 99, 100, 101, 102, 103, 104])), .bool false, .int 0], .agg [.str (List.take (6 - 5) (List.drop 5 [97, 98, 99, 100, 101, 102, 103, 104])), .bool false, .int 0], .agg [.str (List.take (7 - 6) (List.drop 6 [97, 98, 99, 100, 101, 102, 103, 104])), .bool false, .int 0], .agg [.str (List.take (8 - 7) (List.drop 7 [97, 98, 99, 100, 101, 102, 103, 104])), .bool false, .int 0]]] = rowsT [exL] := rfl
theorem ex_new : newT 4 = .agg [.agg [.int 4, .int 0, .int 0, .bool true], .int 0] := by
  unfold newT
  rw [if_neg (by decide)]
def awkL : Law := ⟨fun ts => ts = [], fun ts z₀ => ts = [] → z₀ = .bool true⟩
theorem awk_pre : awkL.pre [] := rfl
theorem awk_fin {z₀ : TV} (h : z₀ = .bool true) : awkL.post [] z₀ := fun _ => h
theorem awk_all {Q : TV → Prop} : (∀ z₀, awkL.post [] z₀ → Q z₀) ↔ Q (.bool true) := ⟨fun h => h _ fun _ => rfl, fun h z₀ hr => by rw [hr rfl]; exact h⟩
theorem awk_c (k : Nat) : Contract Tryd.prog (mkEnv globT []) gtabU (qb2 k) awkL.pre awkL.post := Contract.env (Γ := mkEnv globT [pshowL, pnewL, prouteL, pfollowL]) (contract_law54_awake (fun _ => rfl) (fun s hs => by
    simp only [cx_law54_awake, List.mem_cons, List.not_mem_nil, or_false] at hs
    rcases hs with rfl | rfl | rfl | rfl
    · exact Contract.inEnv rfl (pshow_c 0) rfl
    · exact Contract.inEnv rfl (pnew_c 1) rfl
    · exact Contract.inEnv rfl (proute_c 2) rfl
    · exact Contract.inEnv rfl (pfollow_c 3) rfl) k (by
  rintro ts hl rfl
  have hfin : ∀ z₀ : TV, z₀ = .bool true → awkL.post [] z₀ := fun z₀ hz₀ => awk_fin hz₀
  generalize awkL.post [] = R at hfin ⊢
  unfold tr_law54_awake
  simp only [Tree.den, E.den, P1.den, P2.den, P3.den, qa, qb, qc, qd, qe, qf, qg, qh, zac, zab, zad, zaa, zae, TV.cell, zah, zai, zag, zaf, qi, qj, qk, ql, qm, qn, ne_eq, qo, qp, forall_eq, qs, qt, Int.reduceToNat, qu, exists_eq_left', pnew_all, ex_new, ex_rows, pfollow_all, ex_fol, pshow_all, ex_show, proute_all, ex_route]
  refine ⟨by decide, by decide, by decide, by decide, by decide, by decide, by decide, by decide, pnew_pre trivial, pfollow_pre ex_small, pshow_pre ex_small, proute_pre ex_small, ?_⟩
  simp only [true_implies, not_true_eq_false, false_implies, and_true]
  exact ⟨fun _ => hfin _ rfl, fun h => absurd rfl h⟩)) rfl
structure FolD (sz w h : Int) (rows : List (List Gl)) (r c : Int) (k : Bool) : Prop where
  pr : qhx sz r (curV (rw' rows r) c k / sz * sz) w h rows r c = true
  d0 : 0 ≤ curV (rw' rows r) c k / sz * sz
  d1 : curV (rw' rows r) c k / sz * sz ≤ curV (rw' rows r) c k
  d2 : curV (rw' rows r) c k < curV (rw' rows r) c k / sz * sz + sz
  c0 : 0 ≤ curV (rw' rows r) c k
  c1 : curV (rw' rows r) c k ≤ 4000
theorem OkA.disp {t : TV} (h : OkA true [.int .i64, .int .i64, .int .i64, .bool] t) : ∃ (sz dr dl : Int) (df : Bool), t = .agg [.int sz, .int dr, .int dl, .bool df] := by
  obtain ⟨us, rfl, hl, h⟩ := h
  match us, hl with
  | [a, b, c, d], _ =>
    have k0 : OkA false [.int .i64] a := ⟨_, rfl, h 0 _ a rfl rfl⟩
    have k1 : OkA false [.int .i64] b := ⟨_, rfl, h 1 _ b rfl rfl⟩
    have k2 : OkA false [.int .i64] c := ⟨_, rfl, h 2 _ c rfl rfl⟩
    have k3 : OkA false [.bool] d := ⟨_, rfl, h 3 _ d rfl rfl⟩
    obtain ⟨a, rfl, _⟩ := k0.int
    obtain ⟨b, rfl, _⟩ := k1.int
    obtain ⟨c, rfl, _⟩ := k2.int
    obtain ⟨d, rfl⟩ := k3.bool
    exact ⟨a, b, c, d, rfl⟩
theorem OkT.rowsT {t : TV} (h : OkT (.slice false [.slice true [.str, .bool, .int .i64]]) t) : ∃ rows, t = Proofs.YtgdlkhemopildaaDoor.rowsT rows := by
  cases h with
  | row _ l _ h' =>
    have key : ∀ x ∈ l, ∃ g, x = glsT g := fun x hx => by
      obtain ⟨g, rfl, _⟩ := OkA.gls (t := x) ⟨_, rfl, h' x hx⟩
      exact ⟨g, rfl⟩
    have : ∀ l : List TV, (∀ x ∈ l, ∃ g, x = glsT g) → ∃ rows : List (List Gl), l = rows.map glsT := by
      intro l
      induction l with
      | nil => intro _; exact ⟨[], rfl⟩
      | cons x l ih =>
        intro h
        obtain ⟨g, rfl⟩ := h x List.mem_cons_self
        obtain ⟨rows, rfl⟩ := ih fun y hy => h y (List.mem_cons_of_mem _ hy)
        exact ⟨g :: rows, rfl⟩
    obtain ⟨rows, rfl⟩ := this l key
    exact ⟨rows, rfl⟩
theorem OkA.view {t : TV} (h : OkA true [.int .i64, .int .i64, .slice false [.slice true [.str, .bool, .int .i64]], .int .i64, .int .i64, .bool] t) : ∃ (w h : Int) (rows : List (List Gl)) (r c : Int) (vis : Bool), t = .agg [.int w, .int h, rowsT rows, .int r, .int c, .bool vis] := by
  obtain ⟨us, rfl, hl, h⟩ := h
  match us, hl with
  | [a, b, rs, c, d, e], _ =>
    have k0 : OkA false [.int .i64] a := ⟨_, rfl, h 0 _ a rfl rfl⟩
    have k1 : OkA false [.int .i64] b := ⟨_, rfl, h 1 _ b rfl rfl⟩
    have k2 : OkT (.slice false [.slice true [.str, .bool, .int .i64]]) rs := h 2 _ rs rfl rfl
    have k3 : OkA false [.int .i64] c := ⟨_, rfl, h 3 _ c rfl rfl⟩
    have k4 : OkA false [.int .i64] d := ⟨_, rfl, h 4 _ d rfl rfl⟩
    have k5 : OkA false [.bool] e := ⟨_, rfl, h 5 _ e rfl rfl⟩
    obtain ⟨a, rfl, _⟩ := k0.int
    obtain ⟨b, rfl, _⟩ := k1.int
    obtain ⟨rs, rfl⟩ := k2.rowsT
    obtain ⟨c, rfl, _⟩ := k3.int
    obtain ⟨d, rfl, _⟩ := k4.int
    obtain ⟨e, rfl⟩ := k5.bool
    exact ⟨a, b, rs, c, d, e, rfl⟩
end Go.Proofs.YtgdlkhemopildaaDoor

