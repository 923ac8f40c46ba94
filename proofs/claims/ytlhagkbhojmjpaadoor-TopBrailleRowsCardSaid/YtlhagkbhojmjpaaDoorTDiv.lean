/- Written by this repo's own program out of its texts. -/
import Derived.Test.YtlhagkbhojmjpaaDoorTDiu
namespace Go.Proofs.YtlhagkbhojmjpaaDoor
set_option linter.unusedSimpArgs false
set_option linter.unusedVariables false
set_option linter.unusedSectionVars false
structure FolD (sz w h : Int) (rows : List (List Gl)) (r c : Int) (k : Bool) : Prop where
  pr : qhx sz r (curV (rw' rows r) c k / sz * sz) w h rows r c = true
  d0 : 0 ≤ curV (rw' rows r) c k / sz * sz
  d1 : curV (rw' rows r) c k / sz * sz ≤ curV (rw' rows r) c k
  d2 : curV (rw' rows r) c k < curV (rw' rows r) c k / sz * sz + sz
  c0 : 0 ≤ curV (rw' rows r) c k
  c1 : curV (rw' rows r) c k ≤ 4000
theorem OkT.rowsT {t : TV} (h : OkT (.slice false [.slice true [.str, .bool, .int .i64]]) t) : ∃ rows, t = Proofs.YtlhagkbhojmjpaaDoor.rowsT rows := by
  cases h with
  | row _ l _ h' =>
    have key : ∀ x ∈ l, ∃ g, x = glsT g := fun x hx => by
      obtain ⟨g, rfl, _⟩ := OkA.gls (t := x) ⟨_, rfl, h' x hx⟩
      exact ⟨g, rfl⟩
    have : ∀ l : List TV, (∀ x ∈ l, ∃ g, x = glsT g) → ∃ rows : List (List Gl), l = rows.map glsT := by
      intro l
      induction l with
      | nil => intro _; exact ⟨[], rfl⟩
      | cons x l ih =>
        intro h
        obtain ⟨g, rfl⟩ := h x List.mem_cons_self
        obtain ⟨rows, rfl⟩ := ih fun y hy => h y (List.mem_cons_of_mem _ hy)
        exact ⟨g :: rows, rfl⟩
    obtain ⟨rows, rfl⟩ := this l key
    exact ⟨rows, rfl⟩
theorem OkA.view {t : TV} (h : OkA true [.int .i64, .int .i64, .slice false [.slice true [.str, .bool, .int .i64]], .int .i64, .int .i64, .bool] t) : ∃ (w h : Int) (rows : List (List Gl)) (r c : Int) (vis : Bool), t = .agg [.int w, .int h, rowsT rows, .int r, .int c, .bool vis] := by
  obtain ⟨us, rfl, hl, h⟩ := h
  match us, hl with
  | [a, b, rs, c, d, e], _ =>
    have k0 : OkA false [.int .i64] a := ⟨_, rfl, h 0 _ a rfl rfl⟩
    have k1 : OkA false [.int .i64] b := ⟨_, rfl, h 1 _ b rfl rfl⟩
    have k2 : OkT (.slice false [.slice true [.str, .bool, .int .i64]]) rs := h 2 _ rs rfl rfl
    have k3 : OkA false [.int .i64] c := ⟨_, rfl, h 3 _ c rfl rfl⟩
    have k4 : OkA false [.int .i64] d := ⟨_, rfl, h 4 _ d rfl rfl⟩
    have k5 : OkA false [.bool] e := ⟨_, rfl, h 5 _ e rfl rfl⟩
    obtain ⟨a, rfl, _⟩ := k0.int
    obtain ⟨b, rfl, _⟩ := k1.int
    obtain ⟨rs, rfl⟩ := k2.rowsT
    obtain ⟨c, rfl, _⟩ := k3.int
    obtain ⟨d, rfl, _⟩ := k4.int
    obtain ⟨e, rfl⟩ := k5.bool
    exact ⟨a, b, rs, c, d, e, rfl⟩
end Go.Proofs.YtlhagkbhojmjpaaDoor

