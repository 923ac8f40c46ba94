/- The plain law of lines of braille. -/
import Derived.Test.YtbeelajedknohaaDoorCng
namespace Go.Proofs.YtbeelajedknohaaDoor
set_option linter.unusedSimpArgs false
set_option linter.unusedVariables false
set_option linter.unusedSectionVars false

/-! ### Glyphs -/
structure Gl where
  s : List UInt8
  w : Bool
  y : Int
instance : Inhabited Gl := ⟨⟨[], false, 0⟩⟩
def glT (g : Gl) : TV := .agg [.str g.s, .bool g.w, .int g.y]
def glsT (l : List Gl) : TV := .list (l.map glT)
theorem glsT_inj {a b : List Gl} (h : glsT a = glsT b) : a = b := by
  unfold glsT at h
  simp only [TV.list.injEq] at h
  have := congrArg (List.map fun t : TV => (⟨(t.cell 0).asStr, (t.cell 1).asBool, (t.cell 2).asInt⟩ : Gl)) h
  simpa [List.map_map, Function.comp_def, glT, TV.cell, TV.cells, TV.asInt, TV.asStr, TV.asBool] using this
theorem glsT_eq {a b : List Gl} : glsT a = glsT b ↔ a = b := ⟨glsT_inj, fun h => by rw [h]⟩
theorem glsT_asList (l : List Gl) : (glsT l).asList = l.map glT := rfl
theorem glsT_len (l : List Gl) : (glsT l).asList.length = l.length := by rw [glsT_asList, List.length_map]
def gg (l : List Gl) (i : Nat) : Gl := l.getD i default
theorem gls_get {l : List Gl} {i : Nat} (h : i < l.length) : (l.map glT).getD i (.int 0) = glT (gg l i) := by
  unfold gg
  rw [List.getD_eq_getElem?_getD, List.getElem?_map, List.getD_eq_getElem?_getD, List.getElem?_eq_getElem h]
  rfl
theorem gls_drop {l : List Gl} {k : Nat} (h : k < l.length) : l.drop k = gg l k :: l.drop (k + 1) := by
  unfold gg
  rw [List.drop_eq_getElem_cons h, List.getD_eq_getElem?_getD, List.getElem?_eq_getElem h]
  rfl
theorem gls_snoc (l : List Gl) (g : Gl) : TV.list (l.map glT ++ [.agg [.str g.s, .bool g.w, .int g.y]]) = glsT (l ++ [g]) := by simp [glsT, glT]


/-! ### Lines -/
def cg (g : Gl) : List Int := cellsZ (Go.Proofs.YtbeelajedknohaaDoor.fin (bs g.s))
def ng (g : Gl) : Nat := (Go.Proofs.YtbeelajedknohaaDoor.fin (bs g.s)).length
def srcG (f : Gl → Nat) : Nat → List Gl → List Int
  | _, [] => []
  | i, g :: l => List.replicate (f g) (i : Int) ++ srcG f (i + 1) l
def cellsG (l : List Gl) : List Int := l.flatMap cg
def wordG (l : List Gl) : List UInt8 := l.flatMap Gl.s
theorem cellsG_cons (g : Gl) (l : List Gl) : cellsG (g :: l) = cg g ++ cellsG l := rfl
theorem wordG_cons (g : Gl) (l : List Gl) : wordG (g :: l) = g.s ++ wordG l := rfl
theorem srcG_cons (f : Gl → Nat) (i : Nat) (g : Gl) (l : List Gl) : srcG f i (g :: l) = List.replicate (f g) (i : Int) ++ srcG f (i + 1) l := rfl
theorem srcG_len (f : Gl → Nat) : ∀ (l : List Gl) (i : Nat), (srcG f i l).length = (l.map f).sum
  | [], i => rfl
  | g :: l, i => by rw [srcG_cons, List.length_append, List.length_replicate, srcG_len f l, List.map_cons, List.sum_cons]
theorem cellsG_len (l : List Gl) : (cellsG l).length = (l.map fun g => (cg g).length).sum := by
  induction l with
  | nil => rfl
  | cons g l ih => rw [cellsG_cons, List.length_append, ih, List.map_cons, List.sum_cons]
theorem cg_len (g : Gl) : (cg g).length ≤ 7 * g.s.length := by
  unfold cg
  have h1 := cellsZ_len (Go.Proofs.YtbeelajedknohaaDoor.fin (bs g.s))
  have h2 := fin_len' g.s
  omega
theorem cellsG_bd (l : List Gl) : (cellsG l).length ≤ 7 * (wordG l).length := by
  induction l with
  | nil => simp [cellsG]
  | cons g l ih =>
    rw [cellsG_cons, wordG_cons, List.length_append, List.length_append]
    have := cg_len g
    omega
theorem srcC_len (l : List Gl) (i : Nat) : (srcG (fun g => (cg g).length) i l).length = (cellsG l).length := by rw [srcG_len, cellsG_len]
theorem own_len (l : List Gl) (i : Nat) : (srcG ng i l).length ≤ (wordG l).length := by
  induction l generalizing i with
  | nil => simp [srcG]
  | cons g l ih =>
    rw [srcG_cons, wordG_cons, List.length_append, List.length_append, List.length_replicate]
    have := ih (i + 1)
    have h2 : ng g ≤ g.s.length := fin_len' g.s
    omega
theorem srcG_mem {f : Gl → Nat} : ∀ {l : List Gl} {i : Nat} {x : Int}, x ∈ srcG f i l → (i : Int) ≤ x ∧ x < i + l.length
  | [], i, x, h => by cases h
  | g :: l, i, x, h => by
    rw [srcG_cons] at h
    rw [List.length_cons]
    rcases List.mem_append.1 h with h | h
    · have := (List.mem_replicate.1 h).2
      omega
    · have := srcG_mem h
      omega
theorem fromZ_mem : ∀ {us : List (Nat × List Int)} {i : Nat} {x : Int}, x ∈ fromZ i us → (i : Int) ≤ x
  | [], i, x, h => by cases h
  | (n, c) :: us, i, x, h => by
    simp only [fromZ] at h
    rcases List.mem_append.1 h with h | h
    · have := (List.mem_replicate.1 h).2
      omega
    · have := fromZ_mem h
      omega
theorem fromZ_lt {l : List Int} {us : List (Nat × List Int)} (h : Div l us) : ∀ {i : Nat} {x : Int}, x ∈ fromZ i us → x < i + l.length := by
  induction h with
  | nil => intro i x h; cases h
  | @cons l n c us h t ih =>
    intro i x hx
    have hc := cand_len h
    simp only [fromZ] at hx
    rcases List.mem_append.1 hx with hx | hx
    · have := (List.mem_replicate.1 hx).2
      omega
    · have := ih hx
      rw [List.length_drop] at this
      omega
def lineT (c s : List Int) : TV := .agg [ints c, ints s]
def runesW (l : List Gl) : List Int := Go.Proofs.YtbeelajedknohaaDoor.fin (bs (wordG l))
def ownF (o : List Int) (p : Int) : Int := o.getD p.toNat 0
def brC (l : List Gl) (k : Bool) : List Int := if k = true then cellsOf (transZ (runesW l)) else cellsG l
def brS0 (l : List Gl) (k : Bool) : List Int := if k = true then (fromZ 0 (transZ (runesW l))).map (ownF (srcG ng 0 l)) else srcG (fun g => (cg g).length) 0 l
def brS (l : List Gl) (k : Bool) : List Int := brS0 l k ++ [(l.length : Int)]
def brT (l : List Gl) (k : Bool) : TV := lineT (brC l k) (brS l k)
theorem runesW_len (l : List Gl) : (runesW l).length ≤ (wordG l).length := fin_len' _
theorem brS0_len (l : List Gl) (k : Bool) : (brS0 l k).length = (brC l k).length := by
  unfold brS0 brC
  cases k with
  | true => rw [if_pos rfl, if_pos rfl, List.length_map, fromZ_len]
  | false => rw [if_neg (by decide), if_neg (by decide), srcC_len]
theorem brS_len (l : List Gl) (k : Bool) : (brS l k).length = (brC l k).length + 1 := by unfold brS; rw [List.length_append, brS0_len]; rfl
theorem brC_bd (l : List Gl) (k : Bool) : (brC l k).length ≤ 7 * (wordG l).length := by
  unfold brC
  cases k with
  | true =>
    rw [if_pos rfl, trans_len]
    have h1 := tot_bd (runesW l)
    have h2 := runesW_len l
    omega
  | false => rw [if_neg (by decide)]; exact cellsG_bd l

/-! ### Proper lines -/
def Up (s : List Int) : Prop := ∀ i : Nat, i + 1 < s.length → s.getD i 0 ≤ s.getD (i + 1) 0
def PL (c s : List Int) : Prop := s.length = c.length + 1 ∧ 0 ≤ s.getD 0 0 ∧ Up s
theorem Up.le {s : List Int} (h : Up s) : ∀ {i j : Nat}, i ≤ j → j < s.length → s.getD i 0 ≤ s.getD j 0 := by
  intro i j hij hj
  induction j with
  | zero => have : i = 0 := by omega
            rw [this]; exact Int.le_refl _
  | succ j ih =>
    rcases Nat.lt_or_ge i (j + 1) with h1 | h1
    · have := ih (by omega) (by omega)
      have := h j hj
      omega
    · have : i = j + 1 := by omega
      rw [this]; exact Int.le_refl _
theorem PL.pos {c s : List Int} (h : PL c s) {i : Nat} (hi : i < s.length) : 0 ≤ s.getD i 0 := by
  have := h.2.2.le (Nat.zero_le i) hi
  have := h.2.1
  omega
noncomputable instance (c s : List Int) : Decidable (PL c s) := Classical.propDecidable _
noncomputable def sizeT (c s : List Int) : TV := if PL c s then .agg [.int (s.getD c.length 0), .bool true] else .agg [.int 0, .bool false]
noncomputable def properB (c s : List Int) : Bool := decide (PL c s)
/-- A group's first cell. -/
def Head1 (s : List Int) (i : Nat) : Prop := i = 0 ∨ ¬ s.getD i 0 = s.getD (i - 1) 0
instance (s : List Int) (i : Nat) : Decidable (Head1 s i) := inferInstanceAs (Decidable (_ ∨ _))
def bestN (s : List Int) (g : Int) : Nat → Nat
  | 0 => 0
  | i + 1 => if s.getD i 0 ≤ g ∧ Head1 s i then i else bestN s g i
theorem bestN_le (s : List Int) (g : Int) : ∀ n, bestN s g n ≤ n
  | 0 => Nat.le_refl _
  | n + 1 => by
    unfold bestN
    split
    · omega
    · have := bestN_le s g n; omega
theorem bestN_stop {s : List Int} {g : Int} {i : Nat} (hu : Up s) (hi : i < s.length) (h : g < s.getD i 0) : ∀ {n : Nat}, i ≤ n → n ≤ s.length → bestN s g n = bestN s g i
  | 0, h1, _ => by have : i = 0 := by omega
                   rw [this]
  | n + 1, h1, h2 => by
    rcases Nat.lt_or_ge i (n + 1) with h3 | h3
    · have := hu.le (show i ≤ n by omega) (by omega)
      rw [show bestN s g (n + 1) = if s.getD n 0 ≤ g ∧ Head1 s n then n else bestN s g n from rfl, if_neg (by omega)]
      exact bestN_stop hu hi h (by omega) (by omega)
    · have : i = n + 1 := by omega
      rw [this]
noncomputable def cellAt (c s : List Int) (g : Int) : Int :=
  if ¬ PL c s ∨ g < 0 ∨ 1000000 < g then -1 else if s.getD c.length 0 ≤ g then (c.length : Int) + g - s.getD c.length 0 else bestN s g c.length
noncomputable def glyphAt (c s : List Int) (k : Int) : Int :=
  if ¬ PL c s ∨ k < 0 ∨ 1000000 < k then -1 else if k < c.length then s.getD k.toNat 0 else IntKind.wrap .i64 (IntKind.wrap .i64 (s.getD c.length 0 + k) - c.length)
/-- The first cell of a glyph that has one. -/
theorem bestN_spec {s : List Int} {i : Nat} (hu : Up s) (hi : i < s.length) : ∀ {n : Nat}, i < n → n ≤ s.length → s.getD (bestN s (s.getD i 0) n) 0 = s.getD i 0 ∧ bestN s (s.getD i 0) n ≤ i ∧ (0 < bestN s (s.getD i 0) n → ¬ s.getD (bestN s (s.getD i 0) n - 1) 0 = s.getD i 0) := by
  intro n
  induction n generalizing i with
  | zero => intro h; omega
  | succ n ih =>
    intro h1 h2
    unfold bestN
    by_cases hc : s.getD n 0 ≤ s.getD i 0 ∧ Head1 s n
    · rw [if_pos hc]
      have h3 := hu.le (show i ≤ n by omega) (by omega)
      have he : s.getD n 0 = s.getD i 0 := by omega
      rcases hc.2 with h4 | h4
      · subst h4
        exact ⟨he, by omega, fun h => absurd h (by omega)⟩
      · have hin : n ≤ i := by
          rcases Nat.lt_or_ge i n with h5 | h5
          · exfalso
            have h6 := hu.le (show i ≤ n - 1 by omega) (by omega)
            have h7 := hu.le (show n - 1 ≤ n by omega) (by omega)
            exact h4 (by omega)
          · exact h5
        exact ⟨he, hin, fun _ e => h4 (by omega)⟩
    · rw [if_neg hc]
      rcases Nat.lt_or_ge i n with h3 | h3
      · exact ih hi h3 (by omega)
      · have hin : i = n := by omega
        subst hin
        have hnh : ¬ Head1 s i := fun h => hc ⟨Int.le_refl _, h⟩
        have hi0 : ¬ i = 0 := fun h => hnh (.inl h)
        have he : s.getD i 0 = s.getD (i - 1) 0 := Classical.byContradiction fun h => hnh (.inr h)
        have := ih (i := i - 1) (by omega) (by omega) (by omega)
        rw [← he] at this
        exact ⟨this.1, by omega, this.2.2⟩

/-! ### Arguments -/
def glOf (us : List TV) : Gl := ⟨(us.getD 0 (.int 0)).asStr, (us.getD 1 (.int 0)).asBool, (us.getD 2 (.int 0)).asInt⟩
theorem OkA.gls {t : TV} (h : OkA false [.slice true [.str, .bool, .int .i64]] t) : ∃ l : List Gl, t = glsT l ∧ l.length ≤ reachBytes ∧ ∀ g ∈ l, g.s.length ≤ reachBytes ∧ IntKind.i64.min ≤ g.y ∧ g.y ≤ IntKind.i64.max := by
  obtain ⟨ct, e, h⟩ := h
  simp only [List.cons.injEq, and_true] at e
  subst e
  cases h with
  | rows _ ls h h1 h2 =>
    have key : ∀ us ∈ ls, TV.agg us = glT (glOf us) ∧ (glOf us).s.length ≤ reachBytes ∧ IntKind.i64.min ≤ (glOf us).y ∧ (glOf us).y ≤ IntKind.i64.max := fun us hu => by
      have hl := h1 us hu
      have hc := h2 us hu
      match us, hl with
      | [a, b, c], _ =>
        have k0 := hc 0 _ a rfl rfl
        have k1 := hc 1 _ b rfl rfl
        have k2 := hc 2 _ c rfl rfl
        cases k0 with
        | str s hs =>
          cases k1 with
          | bool w =>
            cases k2 with
            | int _ z hz hz' =>
              refine ⟨?_, hs, hz, hz'⟩
              unfold glT glOf
              simp only [List.getD_cons_zero, List.getD_cons_succ, asBool_bool]
              rfl
    refine ⟨ls.map glOf, ?_, by simpa using h, fun g hg => ?_⟩
    · unfold glsT
      rw [List.map_map]
      congr 1
      exact List.map_congr_left fun us hu => (key us hu).1
    · obtain ⟨us, hu, rfl⟩ := List.mem_map.1 hg
      exact (key us hu).2
theorem OkA.line {k k' : IntKind} {t : TV} (h : OkA true [.slice false [.int k], .slice false [.int k']] t) : ∃ c s : List Int, t = .agg [Proofs.YtbeelajedknohaaDoor.ints c, Proofs.YtbeelajedknohaaDoor.ints s] ∧ c.length ≤ reachBytes ∧ s.length ≤ reachBytes := by
  obtain ⟨us, rfl, hl, h⟩ := h
  match us, hl with
  | [a, b], _ =>
    have k0 : OkA false [.slice false [.int k]] a := ⟨_, rfl, h 0 _ a rfl rfl⟩
    have k1 : OkA false [.slice false [.int k']] b := ⟨_, rfl, h 1 _ b rfl rfl⟩
    obtain ⟨c, rfl, hc, _⟩ := k0.ints
    obtain ⟨s, rfl, hs, _⟩ := k1.ints
    exact ⟨c, s, rfl, hc, hs⟩
end Go.Proofs.YtbeelajedknohaaDoor
