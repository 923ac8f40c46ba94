/- Symbolic runs, part h: new blocks, and rows that are shared from then on. -/
import Derived.Test.YtccpepheooleoaaDoorSg
namespace Go.Proofs.YtccpepheooleoaaDoor
set_option linter.unusedSimpArgs false
set_option linter.unusedVariables false
set_option linter.unusedSectionVars false
open Go.RowKit

section
variable {Γ : CEnv} {gt : GT} {ρ : List TV} {B : Nat} {G : Nat → Prop} {st : SS} {as : List Value} {vss : List (Array Value)} {w : World} {P : Program}

/-! ### Worlds that agree on what stays -/
theorem heap_alloc (w : World) (o : Obj) (k : Nat) : (w.alloc o).heap[k]? = if k = w.heap.size then some o else w.heap[k]? := by
  show (w.heap.push o)[k]? = _
  rw [Array.getElem?_push]
theorem mem_alloc {G' : Nat → Prop} (o : Obj) (hG : ∀ g, G' g → G g ∨ g = w.heap.size) : Mem.le (stable w G) (stable (w.alloc o) G') ∧ Mem.le (fresh w G B) (fresh (w.alloc o) G' B) := by
  have key : ∀ g ob, w.heap[g]? = some ob → ¬ G g → (w.alloc o).heap[g]? = some ob ∧ ¬ G' g := by
    intro g ob h1 h2
    have hlt : g < w.heap.size := (Array.getElem?_eq_some_iff.1 h1).1
    refine ⟨by rw [heap_alloc, if_neg (by omega)]; exact h1, fun h3 => ?_⟩
    rcases hG g h3 with h4 | h4
    · exact h2 h4
    · omega
  exact ⟨fun g ob h => key g ob h.1 h.2, fun g ob h => let ⟨a, b⟩ := key g ob h.1 h.2.1; ⟨a, b, h.2.2⟩⟩

/-- A block is added behind the others. -/
theorem Tr.push (Γ : CEnv) (ρ : List TV) (hp : List Blk) (as : List Value) (hl : as.length = hp.length) (blk : Blk) (va : Value) : Tr Γ ρ hp as (hp ++ [blk]) (as ++ [va]) :=
  ⟨fun b blk' va' h1 h2 => ⟨blk', va', by rw [List.getElem?_append_left (List.getElem?_eq_some_iff.1 h1).1]; exact h1, by rw [List.getElem?_append_left (List.getElem?_eq_some_iff.1 h2).1]; exact h2, Nat.le_refl _,
    fun _ => ⟨rfl, rfl, rfl, fun e h => ⟨e, h⟩⟩⟩⟩

theorem get_push {α : Type} {l : List α} {x y : α} {i : Nat} (h : (l ++ [x])[i]? = some y) : l[i]? = some y ∨ (i = l.length ∧ y = x) := by
  rw [List.getElem?_append] at h
  split at h
  · exact .inl h
  · right
    have : i - l.length = 0 := by
      by_cases h0 : i - l.length = 0
      · exact h0
      · rw [List.getElem?_eq_none (by simp; omega)] at h; cases h
    rw [this] at h
    simp at h
    exact ⟨by omega, h.symm⟩

theorem live_g {hp : List Blk} {M Mf : Mem} {blk : Blk} {va : Value} {w : World} (r : Rel Γ gt ρ B G st as vss w) {b : Nat} (h1 : st.heap[b]? = some blk) (h2 : as[b]? = some va) (hl : blk.live = true) {g : Nat} (hg : gOf va = some g) : g < w.heap.size ∧ B ≤ g :=
  let h := r.gs g (r.own b blk va g h1 h2 hl hg); ⟨h.2, h.1⟩

/-- A new block of the call's own. -/
theorem Rel.alloc (r : Rel Γ gt ρ B G st as vss w) (o : Obj) (blk : Blk) (va : Value) (hlive : blk.live = true) (hg : gOf va = some w.heap.size)
    (hb : BlkRel Γ ρ (st.heap ++ [blk]) (as ++ [va]) (stable (w.alloc o) fun g => G g ∨ g = w.heap.size) (fresh (w.alloc o) (fun g => G g ∨ g = w.heap.size) B) B (w.alloc o) blk va) :
    Rel Γ gt ρ B (fun g => G g ∨ g = w.heap.size) { st with heap := st.heap ++ [blk] } (as ++ [va]) vss (w.alloc o) := by
  have hm := mem_alloc (B := B) (G := G) (w := w) (G' := fun g => G g ∨ g = w.heap.size) o (fun g h => h)
  have tr := Tr.push Γ ρ st.heap as r.alen blk va
  refine r.step _ tr hm.1 hm.2 (by simp [r.alen]) ?_ ?_ ?_ (by have := r.base; simp; omega) ?_
  · intro b blk' va' h1 h2
    rcases get_push h1 with h1 | ⟨e1, rfl⟩
    · rcases get_push h2 with h2 | ⟨e2, rfl⟩
      · exact BlkRel.tr tr hm.1 hm.2 (r.blks b blk' va' h1 h2) fun hl g hg' => by
          have := live_g (hp := []) (M := stable w G) (Mf := stable w G) r h1 h2 hl hg'
          rw [heap_alloc, if_neg (by omega)]
      · have := (List.getElem?_eq_some_iff.1 h1).1
        have := r.alen
        omega
    · rcases get_push h2 with h2 | ⟨e2, rfl⟩
      · have := (List.getElem?_eq_some_iff.1 h2).1
        have := r.alen
        omega
      · exact hb
  · intro b blk' va' g h1 h2 hl hg'
    rcases get_push h1 with h1 | ⟨e1, rfl⟩
    · rcases get_push h2 with h2 | ⟨e2, rfl⟩
      · exact .inl (r.own b blk' va' g h1 h2 hl hg')
      · rw [hg] at hg'; injection hg' with hg'; exact .inr hg'.symm
    · rcases get_push h2 with h2 | ⟨e2, rfl⟩
      · have := (List.getElem?_eq_some_iff.1 h2).1
        have := r.alen
        omega
      · rw [hg] at hg'; injection hg' with hg'; exact .inr hg'.symm
  · intro b b' blk1 blk2 va1 va2 g h1 h2 hl1 hg1 h3 h4 hl2 hg2
    have hl := r.alen
    rcases get_push h1 with h1 | ⟨e1, q1⟩ <;> rcases get_push h2 with h2 | ⟨e2, q2⟩ <;> rcases get_push h3 with h3 | ⟨e3, q3⟩ <;> rcases get_push h4 with h4 | ⟨e4, q4⟩
    all_goals first
      | exact r.dist b b' _ _ _ _ g h1 h2 hl1 hg1 h3 h4 hl2 hg2
      | omega
      | (exfalso; have := (List.getElem?_eq_some_iff.1 h1).1; omega)
      | (exfalso; have := (List.getElem?_eq_some_iff.1 h2).1; omega)
      | (exfalso; have := (List.getElem?_eq_some_iff.1 h3).1; omega)
      | (exfalso; have := (List.getElem?_eq_some_iff.1 h4).1; omega)
      | (exfalso; have h9 := (live_g (hp := []) (M := stable w G) (Mf := stable w G) r h1 h2 hl1 hg1).1; subst q4; rw [hg] at hg2; injection hg2 with hg2; omega)
      | (exfalso; have h9 := (live_g (hp := []) (M := stable w G) (Mf := stable w G) r h3 h4 hl2 hg2).1; subst q2; rw [hg] at hg1; injection hg1 with hg1; omega)
  · intro g hg'
    rcases hg' with h | h
    · have := r.gs g h; simp; omega
    · subst h; have := r.base; simp; omega

/-- A world that has drawn. -/
theorem Rel.drew (r : Rel Γ gt ρ B G st as vss w) : Rel Γ gt ρ B G st as vss w.drew :=
  ⟨r.nv, r.frames, r.alen, fun b blk va h1 h2 => BlkRel.tr (Tr.refl _ _ _ _) (Mem.le.refl _) (Mem.le.refl _) (r.blks b blk va h1 h2) fun _ _ _ => rfl, r.own, r.dist, r.base, r.gs, r.globs⟩

/-- A new block that is not the call's own to write (what a conversion lays). -/
theorem Rel.other (r : Rel Γ gt ρ B G st as vss w) (o : Obj) : Rel Γ gt ρ B G st as vss (w.alloc o) := by
  have hm := mem_alloc (B := B) (G := G) (w := w) (G' := G) o (fun g h => .inl h)
  have := r.step st.heap (Tr.refl Γ ρ st.heap as) hm.1 hm.2 r.alen (fun b blk va h1 h2 => BlkRel.tr (Tr.refl _ _ _ _) hm.1 hm.2 (r.blks b blk va h1 h2) fun hl g hg => by
    have := live_g (hp := []) (M := stable w G) (Mf := stable w G) r h1 h2 hl hg
    rw [heap_alloc, if_neg (by omega)]) r.own r.dist (by have := r.base; simp; omega) (fun g h => by have := r.gs g h; simp; omega)
  exact this

/-! ### A row that is not written any more -/
def Blk.shared (b : Blk) : Blk := { b with own := false }
theorem RepT.of_own {M : Mem} {B : Nat} {blk : Blk} {t : TV} {va : Value} {xs : List Value} (ho : w.ownsRow B blk.ety blk.cs.length va t.asList.length xs) (hr : RowT M blk.ag blk.cs t.asList xs) (hM : ∀ g o, gOf va = some g → w.heap[g]? = some o → M g o) :
    RepT M (.slice blk.ag blk.cs) t va ∧ HeadOrNil va := by
  rcases ho.2 with ⟨rfl, hn⟩ | ⟨g, cap, cur, rfl, hb, hg, hle, hmax, hsz, htk⟩
  · exact ⟨.empty _ _ _ _ _ (List.eq_nil_of_length_eq_zero hn) (fun _ => rfl) (Nat.zero_le _), .inl rfl⟩
  · refine ⟨?_, .inr ⟨g, _, cap, rfl⟩⟩
    have hget : ∀ (j : Nat) (u : Value), xs[j]? = some u → cur[j]? = some u := by
      intro j u hu
      rw [← htk, List.getElem?_take] at hu
      split at hu
      · simpa using hu
      · cases hu
    refine .slice _ _ t g 0 cap cur blk.ety (0, 0) (fun i c => (xs[i * blk.cs.length + c]?).getD undef) (hM g _ rfl hg) hle hmax (fun i hi c hc => ?_) (fun i hi c hc => ?_)
    · obtain ⟨v, k1, k2⟩ := hr.2 i hi c hc
      rw [Nat.zero_add, hget _ _ k1, k1]
      rfl
    · obtain ⟨v, k1, k2⟩ := hr.2 i hi c hc
      rw [k1]
      exact k2
theorem set_get {α : Type} {l : List α} {x y : α} {i j : Nat} (h : (l.set i x)[j]? = some y) : (j = i ∧ y = x) ∨ (j ≠ i ∧ l[j]? = some y) := by
  rw [List.getElem?_set] at h
  by_cases hij : i = j
  · rw [if_pos hij] at h
    split at h
    · simp at h; exact .inl ⟨hij.symm, h.symm⟩
    · cases h
  · rw [if_neg hij] at h; exact .inr ⟨fun e => hij e.symm, h⟩

theorem Rel.share (r : Rel Γ gt ρ B G st as vss w) {b : Nat} {blk : Blk} {e : E} (hb : st.heap[b]? = some blk) (hc : blk.cont = .row e) (ho : blk.own = true) :
    ∃ G', Rel Γ gt ρ B G' { st with heap := st.heap.set b blk.shared } as vss w ∧ Tr Γ ρ st.heap as (st.heap.set b blk.shared) as ∧ Mem.le (stable w G) (stable w G') ∧ Mem.le (fresh w G B) (fresh w G' B) := by
  obtain ⟨va, hva⟩ : ∃ va, as[b]? = some va := ⟨_, List.getElem?_eq_getElem (by rw [r.alen]; exact (List.getElem?_eq_some_iff.1 hb).1)⟩
  let G' : Nat → Prop := fun g => G g ∧ ¬ gOf va = some g
  have hm : Mem.le (stable w G) (stable w G') := fun g o h => ⟨h.1, fun k => h.2 k.1⟩
  have hmf : Mem.le (fresh w G B) (fresh w G' B) := fun g o h => ⟨h.1, fun k => h.2.1 k.1, h.2.2⟩
  have tr : Tr Γ ρ st.heap as (st.heap.set b blk.shared) as := ⟨fun b' blk' va' h1 h2 => by
    by_cases hbb : b' = b
    · subst hbb
      rw [hb] at h1
      injection h1 with h1
      subst h1
      refine ⟨blk.shared, va', ?_, h2, Nat.le_refl _, fun _ => ⟨rfl, rfl, rfl, fun e h => ⟨e, h⟩⟩⟩
      rw [List.getElem?_set, if_pos rfl, if_pos (List.getElem?_eq_some_iff.1 hb).1]
    · refine ⟨blk', va', ?_, h2, Nat.le_refl _, fun _ => ⟨rfl, rfl, rfl, fun e h => ⟨e, h⟩⟩⟩
      rw [List.getElem?_set, if_neg (fun h => hbb h.symm)]; exact h1⟩
  refine ⟨G', r.step _ tr hm hmf (by rw [r.alen]; simp) ?_ ?_ ?_ r.base (fun g h => r.gs g h.1), tr, hm, hmf⟩
  · intro b' blk' va' h1 h2
    rcases set_get h1 with ⟨rfl, rfl⟩ | ⟨hne, h1⟩
    · rw [hva] at h2
      injection h2 with h2
      subst h2
      have h3 := r.blks _ blk va hb hva
      unfold BlkRel at h3 ⊢
      rw [hc] at h3
      rw [show blk.shared.cont = .row e from hc]
      dsimp only at h3 ⊢
      rw [if_neg (by simp [Blk.shared])]
      rw [if_pos ho] at h3
      · obtain ⟨xs, k1, k2⟩ := h3
        have hle : Mem.le (pick (stable w G) (fresh w G B) blk.fr) (pick (stable w G') (fresh w G' B) blk.fr) := pick_le hm hmf _
        refine RepT.of_own (B := B) (blk := blk) k1 (k2.mono hle) fun g o hg ho => ?_
        have hB : B ≤ g := by
          rcases k1.2 with ⟨rfl, _⟩ | ⟨g', cap, cur, rfl, hb', _⟩
          · cases hg
          · injection hg with hg; subst hg; exact hb'
        have hst : w.heap[g]? = some o ∧ ¬ G' g := ⟨ho, fun h => h.2 hg⟩
        show pick (stable w G') (fresh w G' B) blk.fr g o
        cases blk.fr
        · exact hst
        · exact ⟨hst.1, hst.2, hB⟩
    · refine BlkRel.tr tr hm hmf (r.blks b' blk' va' h1 h2) fun _ _ _ => rfl
  · intro b' blk' va' g h1 h2 hl hg
    rcases set_get h1 with ⟨rfl, rfl⟩ | ⟨hne, h1⟩
    · simp [Blk.live, Blk.shared, hc] at hl
    · refine ⟨r.own b' blk' va' g h1 h2 hl hg, fun h => ?_⟩
      exact hne (r.dist b' b blk' blk va' va g h1 h2 hl hg hb hva (by simp [Blk.live, hc, ho]) h)
  · intro b1 b2 blk1 blk2 va1 va2 g h1 h2 hl1 hg1 h3 h4 hl2 hg2
    rcases set_get h1 with ⟨rfl, rfl⟩ | ⟨hne, h1⟩
    · simp [Blk.live, Blk.shared, hc] at hl1
    · rcases set_get h3 with ⟨rfl, rfl⟩ | ⟨hne', h3⟩
      · simp [Blk.live, Blk.shared, hc] at hl2
      · exact r.dist b1 b2 blk1 blk2 va1 va2 g h1 h2 hl1 hg1 h3 h4 hl2 hg2
end
end Go.Proofs.YtccpepheooleoaaDoor
