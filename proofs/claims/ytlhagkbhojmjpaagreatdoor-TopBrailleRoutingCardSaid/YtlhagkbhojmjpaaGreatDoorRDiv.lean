/- Written by this repo's own program out of its texts. -/
import Derived.Test.YtlhagkbhojmjpaaGreatDoorRDiu
namespace Go.Proofs.YtlhagkbhojmjpaaGreatDoor
set_option linter.unusedSimpArgs false
set_option linter.unusedVariables false
set_option linter.unusedSectionVars false
theorem folT_pos {sz dr dl w h : Int} {rows : List (List Gl)} {r c : Int} (hq : qhx sz dr dl w h rows r c = true) (k : Bool) : folT sz dr dl w h rows r c k = .agg [.int sz, .int r, .int (curV (rw' rows r) c k / sz * sz), .bool true] := by
  unfold folT
  rw [if_pos hq]
structure FolD (sz w h : Int) (rows : List (List Gl)) (r c : Int) (k : Bool) : Prop where
  pr : qhx sz r (curV (rw' rows r) c k / sz * sz) w h rows r c = true
  d0 : 0 ≤ curV (rw' rows r) c k / sz * sz
  d1 : curV (rw' rows r) c k / sz * sz ≤ curV (rw' rows r) c k
  d2 : curV (rw' rows r) c k < curV (rw' rows r) c k / sz * sz + sz
  c0 : 0 ≤ curV (rw' rows r) c k
  c1 : curV (rw' rows r) c k ≤ 4000
theorem fol_proper {sz dr dl w h : Int} {rows : List (List Gl)} {r c : Int} (hq : qhx sz dr dl w h rows r c = true) (k : Bool) : FolD sz w h rows r c k := by
  have P := properD_iff.1 hq
  have V := proper_view P.ck
  have a1 := P.s1; have a2 := P.s2
  have b1 := V.h1; have b2 := V.h2; have b3 := V.len; have b4 := V.r1; have b5 := V.r2; have b6 := V.c1; have b7 := V.c2; have b8 := V.w2
  have hcu := curV_bd (V.rows _ (rw_mem b4 (by omega))).1 (V.rows _ (rw_mem b4 (by omega))).2 b8 b6 b7 k
  have hd := ediv_le hcu.1 a1
  exact ⟨properD_iff.2 ⟨a1, a2, b4, by omega, hd.2.1, by omega, P.ck⟩, hd.2.1, hd.2.2.1, hd.2.2.2.1, hcu.1, hcu.2⟩
theorem show_fol {sz w h : Int} {rows : List (List Gl)} {r c : Int} {k : Bool} (F : FolD sz w h rows r c k) (hr : r < h) (vis : Bool) :
    showT sz r (curV (rw' rows r) c k / sz * sz) w h rows r c vis k = .agg [ints (showC (brC (rw' rows r) k) sz.toNat (curV (rw' rows r) c k / sz * sz).toNat), .int (if vis = true then curV (rw' rows r) c k - curV (rw' rows r) c k / sz * sz else -1)] := by
  have f1 := F.d0; have f2 := F.d1; have f3 := F.d2
  unfold showT showA
  rw [if_pos F.pr, show min r (h - 1) = r by omega]
  cases vis with
  | true => rw [if_pos ⟨rfl, rfl, by omega, by omega⟩, if_pos rfl]
  | false => rw [if_neg (by rintro ⟨_, h, _⟩; cases h), if_neg (by decide)]
theorem OkA.disp {t : TV} (h : OkA true [.int .i64, .int .i64, .int .i64, .bool] t) : ∃ (sz dr dl : Int) (df : Bool), t = .agg [.int sz, .int dr, .int dl, .bool df] := by
  obtain ⟨us, rfl, hl, h⟩ := h
  match us, hl with
  | [a, b, c, d], _ =>
    have k0 : OkA false [.int .i64] a := ⟨_, rfl, h 0 _ a rfl rfl⟩
    have k1 : OkA false [.int .i64] b := ⟨_, rfl, h 1 _ b rfl rfl⟩
    have k2 : OkA false [.int .i64] c := ⟨_, rfl, h 2 _ c rfl rfl⟩
    have k3 : OkA false [.bool] d := ⟨_, rfl, h 3 _ d rfl rfl⟩
    obtain ⟨a, rfl, _⟩ := k0.int
    obtain ⟨b, rfl, _⟩ := k1.int
    obtain ⟨c, rfl, _⟩ := k2.int
    obtain ⟨d, rfl⟩ := k3.bool
    exact ⟨a, b, c, d, rfl⟩
theorem OkT.rowsT {t : TV} (h : OkT (.slice false [.slice true [.str, .bool, .int .i64]]) t) : ∃ rows, t = Proofs.YtlhagkbhojmjpaaGreatDoor.rowsT rows := by
  cases h with
  | row _ l _ h' =>
    have key : ∀ x ∈ l, ∃ g, x = glsT g := fun x hx => by
      obtain ⟨g, rfl, _⟩ := OkA.gls (t := x) ⟨_, rfl, h' x hx⟩
      exact ⟨g, rfl⟩
    have : ∀ l : List TV, (∀ x ∈ l, ∃ g, x = glsT g) → ∃ rows : List (List Gl), l = rows.map glsT := by
      intro l
      induction l with
      | nil => intro _; exact ⟨[], rfl⟩
      | cons x l ih =>
        intro h
        obtain ⟨g, rfl⟩ := h x List.mem_cons_self
        obtain ⟨rows, rfl⟩ := ih fun y hy => h y (List.mem_cons_of_mem _ hy)
        exact ⟨g :: rows, rfl⟩
    obtain ⟨rows, rfl⟩ := this l key
    exact ⟨rows, rfl⟩
theorem OkA.view {t : TV} (h : OkA true [.int .i64, .int .i64, .slice false [.slice true [.str, .bool, .int .i64]], .int .i64, .int .i64, .bool] t) : ∃ (w h : Int) (rows : List (List Gl)) (r c : Int) (vis : Bool), t = .agg [.int w, .int h, rowsT rows, .int r, .int c, .bool vis] := by
  obtain ⟨us, rfl, hl, h⟩ := h
  match us, hl with
  | [a, b, rs, c, d, e], _ =>
    have k0 : OkA false [.int .i64] a := ⟨_, rfl, h 0 _ a rfl rfl⟩
    have k1 : OkA false [.int .i64] b := ⟨_, rfl, h 1 _ b rfl rfl⟩
    have k2 : OkT (.slice false [.slice true [.str, .bool, .int .i64]]) rs := h 2 _ rs rfl rfl
    have k3 : OkA false [.int .i64] c := ⟨_, rfl, h 3 _ c rfl rfl⟩
    have k4 : OkA false [.int .i64] d := ⟨_, rfl, h 4 _ d rfl rfl⟩
    have k5 : OkA false [.bool] e := ⟨_, rfl, h 5 _ e rfl rfl⟩
    obtain ⟨a, rfl, _⟩ := k0.int
    obtain ⟨b, rfl, _⟩ := k1.int
    obtain ⟨rs, rfl⟩ := k2.rowsT
    obtain ⟨c, rfl, _⟩ := k3.int
    obtain ⟨d, rfl, _⟩ := k4.int
    obtain ⟨e, rfl⟩ := k5.bool
    exact ⟨a, b, rs, c, d, e, rfl⟩
theorem qh1 (g : Int) : colV [] g = max 0 g := by
  unfold colV
  rw [List.take_nil]
  simp only [widG, List.length_nil]
  omega
theorem qh2 {l : List Gl} {g : Int} (h : g ≤ 0) : colV l g = 0 := by
  unfold colV
  rw [show (min g (l.length : Int)).toNat = 0 by omega, List.take_zero]
  simp only [widG]
  omega
theorem qh0 {x : Gl} {l : List Gl} {g : Int} (h : 1 ≤ g) : colV (x :: l) g = wd x + colV l (g - 1) := by
  unfold colV
  rw [show (min g ((x :: l).length : Int)).toNat = (min (g - 1) (l.length : Int)).toNat + 1 by rw [List.length_cons]; omega, List.take_succ_cons]
  simp only [widG, List.length_cons]
  omega
theorem idx_col : ∀ (l : List Gl) (at' g : Int) (i : Nat), 0 ≤ g → idxR l (at' + colV l g) at' i = i + g
  | [], at', g, i, h => by rw [qh1, idxR]; omega
  | x :: l, at', g, i, h => by
    have hw := wd_bd x
    by_cases h1 : 1 ≤ g
    · have hc := colV_bd (l := l) (g := g - 1) (by omega)
      have ih := idx_col l (at' + wd x) (g - 1) (i + 1) (by omega)
      rw [qh0 h1, idxR, if_neg (by omega), show at' + (wd x + colV l (g - 1)) = at' + wd x + colV l (g - 1) by omega, ih]
      omega
    · rw [qh2 (by omega), idxR, if_pos (by omega)]
      omega
theorem idxG_col {l : List Gl} {g : Int} (h : 0 ≤ g) : idxG l (colV l g) = g := by
  have hc := colV_bd (l := l) h
  have := idx_col l 0 g 0 h
  unfold idxG
  rw [if_neg (by omega), show colV l g = 0 + colV l g by omega, this]
  omega
theorem route_fol {sz w h : Int} {rows : List (List Gl)} {r c : Int} {k : Bool} (F : FolD sz w h rows r c k) (hr : r < h) {i : Int} (h0 : 0 ≤ i) (h1 : i < sz) :
    qhy sz r (curV (rw' rows r) c k / sz * sz) w h rows r c k i = if w ≤ colV (rw' rows r) (zb6 (brC (rw' rows r) k) (brS (rw' rows r) k) (curV (rw' rows r) c k / sz * sz + i)) then .agg [.int 0, .int 0, .int 2] else
      .agg [.int r, .int (colV (rw' rows r) (zb6 (brC (rw' rows r) k) (brS (rw' rows r) k) (curV (rw' rows r) c k / sz * sz + i))), .int 0] := by
  unfold qhy
  rw [if_pos F.pr, show min r (h - 1) = r by omega, if_neg (by omega)]
end Go.Proofs.YtlhagkbhojmjpaaGreatDoor

