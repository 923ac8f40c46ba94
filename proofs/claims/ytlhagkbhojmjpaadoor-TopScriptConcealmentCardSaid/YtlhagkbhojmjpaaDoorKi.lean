/- The law of script concealment. -/
import Derived.Test.YtlhagkbhojmjpaaDoorKh
import Derived.Test.YtlhagkbhojmjpaaDoorScl
namespace Go.Proofs.YtlhagkbhojmjpaaDoor
set_option linter.unusedSimpArgs false
set_option linter.unusedVariables false
set_option linter.unusedSectionVars false
open Go.RowKit

def conC (n w : List UInt8) (c : Zl) : Zl := if andI c.g 64 = 0 then c else if c.w = 1 then { c with s := n } else if c.w = 2 then { c with s := w } else c
def conL (n w : List UInt8) (l : List Zl) : List Zl := l.map (conC n w)
structure NW (n w : List UInt8) : Prop where
  n : zc7 n = 1
  w : zc7 w = 2
theorem qpr {s : List UInt8} (h : ¬ zc7 s = 0) : zbf s = 0 := by
  unfold zc7 at h
  split at h
  · assumption
  · exact absurd rfl h
theorem con_w (n w : List UInt8) (c : Zl) : (conC n w c).w = c.w ∧ (conC n w c).f = c.f ∧ (conC n w c).b = c.b ∧ (conC n w c).g = c.g := by
  unfold conC
  split
  · exact ⟨rfl, rfl, rfl, rfl⟩
  · split
    · exact ⟨rfl, rfl, rfl, rfl⟩
    · split
      · exact ⟨rfl, rfl, rfl, rfl⟩
      · exact ⟨rfl, rfl, rfl, rfl⟩
theorem con_at (n w : List UInt8) (c : Zl) : atB (conC n w c) = atB c := by
  obtain ⟨_, h1, h2, h3⟩ := con_w n w c
  unfold atB
  rw [h1, h2, h3]
theorem con_bad {n w : List UInt8} (h : NW n w) {c : Zl} (hc : badC c = 0) : badC (conC n w c) = 0 := by
  unfold conC
  split
  · exact hc
  · split
    · rename_i h1 h2
      exact bad0 (.inl h2) (qpr (by rw [h.n]; decide)) (by show zc7 n = c.w; rw [h.n, h2])
    · split
      · rename_i h1 h2 h3
        exact bad0 (.inr h3) (qpr (by rw [h.w]; decide)) (by show zc7 w = c.w; rw [h.w, h3])
      · exact hc
theorem nul_of {c d : Zl} : nulB c d = true ↔ d.s = [] ∧ d.w = 0 ∧ d.f = c.f ∧ d.b = c.b ∧ d.g = c.g := by
  unfold nulB nulT
  by_cases h1 : d.s = []
  · by_cases h2 : d.w = 0
    · by_cases h3 : d.f = c.f
      · by_cases h4 : d.b = c.b
        · by_cases h5 : d.g = c.g
          · simp [h1, h2, h3, h4, h5, TV.asBool]
          · simp [h1, h2, h3, h4, h5, TV.asBool]
        · simp [h1, h2, h3, h4, TV.asBool]
      · simp [h1, h2, h3, TV.asBool]
    · simp [h1, h2, TV.asBool]
  · simp [h1, TV.asBool]
theorem con_nul (n w : List UInt8) {c d : Zl} (h : nulB c d = true) : nulB (conC n w c) (conC n w d) = true := by
  obtain ⟨h1, h2, h3, h4, h5⟩ := nul_of.1 h
  obtain ⟨_, k1, k2, k3⟩ := con_w n w c
  have e : conC n w d = d := by
    unfold conC
    split
    · rfl
    · rw [if_neg (by omega), if_neg (by omega)]
  rw [e]
  exact nul_of.2 ⟨h1, h2, h3.trans k1.symm, h4.trans k2.symm, h5.trans k3.symm⟩
theorem con_chk {n w : List UInt8} (h : NW n w) : ∀ {l : List Zl}, chkC l = 0 → chkC (conL n w l) = 0
  | [], _ => rfl
  | [c], hl => by
    unfold chkC at hl
    by_cases hb : badC c = 0
    · rw [if_neg (fun k => k hb)] at hl
      have hw : ¬ c.w = 2 := fun k => by rw [if_pos k] at hl; omega
      show chkC [conC n w c] = 0
      unfold chkC
      rw [if_neg (fun k => k (con_bad h hb)), if_neg (by rw [(con_w n w c).1]; exact hw)]
    · rw [if_pos hb] at hl
      exact absurd hl hb
  | c :: d :: l, hl => by
    unfold chkC at hl
    by_cases hb : badC c = 0
    · rw [if_neg (fun k => k hb)] at hl
      show chkC (conC n w c :: conC n w d :: conL n w l) = 0
      unfold chkC
      rw [if_neg (fun k => k (con_bad h hb)), (con_w n w c).1]
      by_cases hw : c.w = 2
      · rw [if_pos hw] at hl ⊢
        by_cases hn : nulB c d = true
        · rw [if_pos hn] at hl
          rw [if_pos (con_nul n w hn)]
          exact con_chk h hl
        · rw [if_neg hn] at hl; omega
      · rw [if_neg hw] at hl ⊢
        exact con_chk h (l := d :: l) hl
    · rw [if_pos hb] at hl
      exact absurd hl hb
theorem con_row {n w : List UInt8} (h : NW n w) {z : Int} {l : List Zl} (hl : rwB z l = true) : rwB z (conL n w l) = true := by
  unfold rwB at hl ⊢
  simp only [Bool.and_eq_true, decide_eq_true_eq] at hl ⊢
  obtain ⟨⟨h1, h2⟩, h3⟩ := hl
  have hlen : (conL n w l).length = l.length := List.length_map _
  refine ⟨⟨by rw [hlen]; exact h1, ?_⟩, ?_⟩
  · unfold rwE at h2 ⊢
    rw [hlen]
    split at h2
    · omega
    · rename_i hh
      rw [if_neg hh]
      exact con_chk h h2
  · unfold conL
    rw [List.all_map]
    rw [← h3]
    congr 1
    funext c
    exact con_at n w c
theorem con_show {n w : List UInt8} (h : NW n w) {zw zh cr cl : Int} {r : List (List Zl)} (hs : showB zw zh r cr cl = true) : showB zw zh (r.map (conL n w)) cr cl = true := by
  unfold showB at hs ⊢
  simp only [Bool.and_eq_true, decide_eq_true_eq, List.length_map, List.all_map, List.all_eq_true, Function.comp_def] at hs ⊢
  exact ⟨hs.1, fun l hl => con_row h (hs.2 l hl)⟩
theorem con_gly (n w : List UInt8) (c : Zl) : glyO (conC n w c) = glyO c := by
  obtain ⟨h1, _, _, h3⟩ := con_w n w c
  unfold glyO
  rw [h1, h3]
  by_cases hg : andI c.g 64 = 0
  · have e : conC n w c = c := by unfold conC; rw [if_pos hg]
    rw [e]
  · rw [if_pos hg, if_pos hg]
theorem con_view (n w : List UInt8) (l : List Zl) : viewR (conL n w l) = viewR l := by
  unfold viewR glyL conL
  rw [List.flatMap_map]
  congr 2
  funext c
  exact con_gly n w c

theorem large_of {r : List (List Zl)} (h : largeB r = false) : r.length ≤ 12 ∧ ∀ l ∈ r, l.length ≤ 140 ∧ ∀ c ∈ l, c.s.length ≤ 40 := by
  unfold largeB at h
  simp only [Bool.or_eq_false_iff, decide_eq_false_iff_not, List.any_eq_false] at h
  refine ⟨by omega, fun l hl => ?_⟩
  have := h.2 l hl
  unfold qpm at this
  simp only [Bool.or_eq_true, decide_eq_true_eq, List.any_eq_true, not_or, not_exists, not_and] at this
  exact ⟨by omega, fun c hc => by have := this.2 c hc; omega⟩
theorem view_small {l : List Zl} (h : l.length ≤ 140 ∧ ∀ c ∈ l, c.s.length ≤ 40) : SmallR (viewR l) := by
  have hl := glyL_len l
  unfold viewR trimZ
  refine ⟨by rw [List.length_take]; omega, fun g hg => ?_⟩
  have hg := List.mem_of_mem_take hg
  unfold glyL at hg
  obtain ⟨c, hc, hgc⟩ := List.mem_flatMap.1 hg
  unfold glyO at hgc
  split at hgc
  · simp at hgc; subst hgc; decide
  · split at hgc
    · simp at hgc
    · simp at hgc; subst hgc; exact h.2 c hc
theorem con_small {n w : List UInt8} (hn : n.length ≤ 40) (hw : w.length ≤ 40) {l : List Zl} (h : l.length ≤ 140 ∧ ∀ c ∈ l, c.s.length ≤ 40) : (conL n w l).length ≤ 140 ∧ ∀ c ∈ conL n w l, c.s.length ≤ 40 := by
  unfold conL
  refine ⟨by rw [List.length_map]; exact h.1, fun c hc => ?_⟩
  obtain ⟨d, hd, rfl⟩ := List.mem_map.1 hc
  unfold conC
  split
  · exact h.2 d hd
  · split
    · exact hn
    · split
      · exact hw
      · exact h.2 d hd
theorem small_mod {r : List (List Zl)} (h : r.length ≤ 12 ∧ ∀ l ∈ r, l.length ≤ 140 ∧ ∀ c ∈ l, c.s.length ≤ 40) : Mod r := ⟨by omega, fun l hl => ⟨by have := (h.2 l hl).1; omega, fun c hc => by have := (h.2 l hl).2 c hc; omega⟩⟩

def uT (t x : TV) : TV := .agg [t.cells.getD 0 (.int 0), t.cells.getD 1 (.int 0), x, t.cells.getD 3 (.int 0), t.cells.getD 4 (.int 0), t.cells.getD 5 (.int 0), t.cells.getD 6 (.int 0), t.cells.getD 7 (.int 0), t.cells.getD 8 (.int 0), t.cells.getD 9 (.int 0), t.cells.getD 10 (.int 0), t.cells.getD 11 (.int 0), t.cells.getD 12 (.int 0), t.cells.getD 13 (.int 0), t.cells.getD 14 (.int 0), t.cells.getD 15 (.int 0), t.cells.getD 16 (.int 0), t.cells.getD 17 (.int 0), t.cells.getD 18 (.int 0), t.cells.getD 19 (.int 0), t.cells.getD 20 (.int 0), t.cells.getD 21 (.int 0), t.cells.getD 22 (.int 0), t.cells.getD 23 (.int 0), t.cells.getD 24 (.int 0), t.cells.getD 25 (.int 0), t.cells.getD 26 (.int 0), t.cells.getD 27 (.int 0), t.cells.getD 28 (.int 0), t.cells.getD 29 (.int 0), t.cells.getD 30 (.int 0), t.cells.getD 31 (.int 0), t.cells.getD 32 (.int 0), t.cells.getD 33 (.int 0), t.cells.getD 34 (.int 0), t.cells.getD 35 (.int 0), t.cells.getD 36 (.int 0), t.cells.getD 37 (.int 0), t.cells.getD 38 (.int 0), t.cells.getD 39 (.int 0), t.cells.getD 40 (.int 0), t.cells.getD 41 (.int 0)]
theorem tm_eta {t : TV} (h : TermOk t) : TV.agg [t.cells.getD 0 (.int 0), t.cells.getD 1 (.int 0), t.cells.getD 2 (.int 0), t.cells.getD 3 (.int 0), t.cells.getD 4 (.int 0), t.cells.getD 5 (.int 0), t.cells.getD 6 (.int 0), t.cells.getD 7 (.int 0), t.cells.getD 8 (.int 0), t.cells.getD 9 (.int 0), t.cells.getD 10 (.int 0), t.cells.getD 11 (.int 0), t.cells.getD 12 (.int 0), t.cells.getD 13 (.int 0), t.cells.getD 14 (.int 0), t.cells.getD 15 (.int 0), t.cells.getD 16 (.int 0), t.cells.getD 17 (.int 0), t.cells.getD 18 (.int 0), t.cells.getD 19 (.int 0), t.cells.getD 20 (.int 0), t.cells.getD 21 (.int 0), t.cells.getD 22 (.int 0), t.cells.getD 23 (.int 0), t.cells.getD 24 (.int 0), t.cells.getD 25 (.int 0), t.cells.getD 26 (.int 0), t.cells.getD 27 (.int 0), t.cells.getD 28 (.int 0), t.cells.getD 29 (.int 0), t.cells.getD 30 (.int 0), t.cells.getD 31 (.int 0), t.cells.getD 32 (.int 0), t.cells.getD 33 (.int 0), t.cells.getD 34 (.int 0), t.cells.getD 35 (.int 0), t.cells.getD 36 (.int 0), t.cells.getD 37 (.int 0), t.cells.getD 38 (.int 0), t.cells.getD 39 (.int 0), t.cells.getD 40 (.int 0), t.cells.getD 41 (.int 0)] = t := by
  obtain ⟨us, rfl, hl⟩ := h.u
  have e : (List.range 42).map (fun i => us.getD i (.int 0)) = us := by
    apply List.ext_getElem
    · simp [hl]
    · intro i h1 h2
      simp [List.getD_eq_getElem?_getD, h2]
  exact congrArg TV.agg e
theorem uT_eta (t x : TV) : TV.agg [t.cells.getD 0 (.int 0), t.cells.getD 1 (.int 0), x, t.cells.getD 3 (.int 0), t.cells.getD 4 (.int 0), t.cells.getD 5 (.int 0), t.cells.getD 6 (.int 0), t.cells.getD 7 (.int 0), t.cells.getD 8 (.int 0), t.cells.getD 9 (.int 0), t.cells.getD 10 (.int 0), t.cells.getD 11 (.int 0), t.cells.getD 12 (.int 0), t.cells.getD 13 (.int 0), t.cells.getD 14 (.int 0), t.cells.getD 15 (.int 0), t.cells.getD 16 (.int 0), t.cells.getD 17 (.int 0), t.cells.getD 18 (.int 0), t.cells.getD 19 (.int 0), t.cells.getD 20 (.int 0), t.cells.getD 21 (.int 0), t.cells.getD 22 (.int 0), t.cells.getD 23 (.int 0), t.cells.getD 24 (.int 0), t.cells.getD 25 (.int 0), t.cells.getD 26 (.int 0), t.cells.getD 27 (.int 0), t.cells.getD 28 (.int 0), t.cells.getD 29 (.int 0), t.cells.getD 30 (.int 0), t.cells.getD 31 (.int 0), t.cells.getD 32 (.int 0), t.cells.getD 33 (.int 0), t.cells.getD 34 (.int 0), t.cells.getD 35 (.int 0), t.cells.getD 36 (.int 0), t.cells.getD 37 (.int 0), t.cells.getD 38 (.int 0), t.cells.getD 39 (.int 0), t.cells.getD 40 (.int 0), t.cells.getD 41 (.int 0)] = uT t x := rfl
theorem uT_rows (t : TV) (r : List (List Zl)) : rowsQ (uT t (rwsT r)) = r := rwsOf_T r
theorem uT_ok {t : TV} (h : TermOk t) (r : List (List Zl)) : TermOk (uT t (rwsT r)) := ⟨⟨_, rfl, rfl⟩, by show rwsT r = rwsT (rwsOf (rwsT r)); rw [rwsOf_T], h.w, h.h⟩
theorem uT_show (t : TV) (r : List (List Zl)) : showQ (uT t (rwsT r)) = showB (intQ t 0) (intQ t 1) r (intQ t 6) (intQ t 7) := by
  unfold showQ
  rw [uT_rows]
  rfl
def seen (t : TV) : TV := .agg [t.cells.getD 0 (.int 0), t.cells.getD 1 (.int 0), .list ((rowsQ t).map fun l => glsT (viewR l)), t.cells.getD 6 (.int 0), t.cells.getD 7 (.int 0), t.cells.getD 27 (.int 0)]
theorem of_t {t : TV} (h : showQ t = true) : ofT t = seen t := by unfold ofT; rw [if_pos h]; rfl
theorem of_u {t : TV} {n w : List UInt8} (hn : NW n w) (h : showQ t = true) : ofT (uT t (rwsT ((rowsQ t).map (conL n w)))) = seen t := by
  have hs : showQ (uT t (rwsT ((rowsQ t).map (conL n w)))) = true := by rw [uT_show]; exact con_show hn h
  unfold ofT
  rw [if_pos hs, uT_rows]
  unfold seen
  rw [List.map_map]
  congr 1
  show [t.cells.getD 0 (.int 0), t.cells.getD 1 (.int 0), TV.list (List.map ((fun l => glsT (viewR l)) ∘ conL n w) (rowsQ t)), t.cells.getD 6 (.int 0), t.cells.getD 7 (.int 0), t.cells.getD 27 (.int 0)] = _
  congr 3
  congr 1
  apply List.map_congr_left
  intro l _
  show glsT (viewR (conL n w l)) = _
  rw [con_view]
end Go.Proofs.YtlhagkbhojmjpaaDoor
