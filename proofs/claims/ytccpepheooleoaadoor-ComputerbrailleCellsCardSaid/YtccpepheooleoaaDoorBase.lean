/- Worlds that grow: the small laws by which a walk sees through a callee that makes memory of its own and leaves what was there alone. -/
import Derived.WalkKit
import Derived.ProofKit
import Derived.OpenShut
import Derived.BigQuiet
import Derived.Deep.RegionHeld3
import Derived.WalkLawsBesides
import Derived.WalkSpells
import Derived.Lib.Hide
import Derived.Deep.DeepFit
namespace Go.Proofs.YtccpepheooleoaaDoor
set_option linter.unusedSimpArgs false
set_option linter.unusedVariables false
set_option linter.unusedSectionVars false
open Go.RowKit

/-- A world behind w in which all of w's blocks are as they were. -/
structure Ext (w : World) where
  to : World
  below : Below w.heap.size w to

instance (w : World) : Nonempty (Ext w) := ⟨⟨w, Below.refl _ _⟩⟩
def grow (w : World) (x : Ext w) : World := x.to
def Gr (w w' : World) : Prop := ∃ x : Ext w, w' = grow w x

theorem grow_below (w : World) (x : Ext w) : Below w.heap.size w (grow w x) := x.below
theorem Gr.of_below {w w' : World} (h : Below w.heap.size w w') : Gr w w' := ⟨⟨w', h⟩, rfl⟩
theorem Gr.below {w w' : World} (h : Gr w w') : Below w.heap.size w w' := by obtain ⟨x, rfl⟩ := h; exact x.below
theorem Gr.size {w w' : World} (h : Gr w w') : w.heap.size ≤ w'.heap.size := h.below.size
theorem Gr.refl (w : World) : Gr w w := .of_below (Below.refl _ _)
theorem Gr.trans {a b c : World} (h : Gr a b) (k : Gr b c) : Gr a c := .of_below (h.below.trans (k.below.mono h.below.size))
theorem Gr.alloc {a w : World} (h : Gr a w) (o : Obj) : Gr a (w.alloc o) := .of_below (h.below.alloc h.below.size o)
theorem Gr.drew {a w : World} (h : Gr a w) : Gr a w.drew := .of_below h.below.drew
theorem Gr.undrew {w w' : World} (h : Gr w w') : Gr w.drew w' := .of_below ⟨h.below.os, h.below.tape, h.below.output, h.below.size, h.below.block⟩
theorem Gr.undrewN {w w' : World} {n : Nat} (h : Gr w w') : Gr (w.drewN n) w' := .of_below ⟨h.below.os, h.below.tape, h.below.output, h.below.size, h.below.block⟩
theorem Gr.drewN {a w : World} (h : Gr a w) (n : Nat) : Gr a (w.drewN n) := .of_below (h.below.trans ⟨rfl, rfl, rfl, Nat.le_refl _, fun _ _ => rfl⟩)
theorem Gr.grow {a w : World} (h : Gr a w) (x : Ext w) : Gr a (grow w x) := h.trans ⟨x, rfl⟩
theorem Gr.setCell {a w : World} (h : Gr a w) {p : Addr} (hp : a.heap.size ≤ p.block) (u : Value) : Gr a (w.setCell p u) := .of_below (h.below.setCell hp u)

def Ext.drew {w : World} (x : Ext w) : Ext w := ⟨x.to.drew, x.below.drew⟩
def Ext.drewN {w : World} (x : Ext w) (n : Nat) : Ext w := ⟨x.to.drewN n, x.below.trans ⟨rfl, rfl, rfl, Nat.le_refl _, fun _ _ => rfl⟩⟩
def Ext.trans {w : World} (x : Ext w) (y : Ext (Proofs.YtccpepheooleoaaDoor.grow w x)) : Ext w := ⟨y.to, x.below.trans (y.below.mono x.below.size)⟩
def Ext.undrew {w : World} (x : Ext w.drew) : Ext w := ⟨x.to, ⟨x.below.os, x.below.tape, x.below.output, x.below.size, x.below.block⟩⟩
def Ext.undrewN {w : World} {n : Nat} (x : Ext (w.drewN n)) : Ext w := ⟨x.to, ⟨x.below.os, x.below.tape, x.below.output, x.below.size, x.below.block⟩⟩

theorem grow_drew {w : World} (x : Ext w) : (grow w x).drew = grow w x.drew := rfl
theorem grow_drewN {w : World} (x : Ext w) (n : Nat) : (grow w x).drewN n = grow w (x.drewN n) := rfl
theorem grow_grow {w : World} (x : Ext w) (y : Ext (grow w x)) : grow (grow w x) y = grow w (x.trans y) := rfl
@[go_sem] theorem drew_grow {w : World} (x : Ext w.drew) : grow w.drew x = grow w x.undrew := rfl
@[go_sem] theorem drewN_grow {w : World} {n : Nat} (x : Ext (w.drewN n)) : grow (w.drewN n) x = grow w x.undrewN := rfl

@[go_sem] theorem cell_grow {w : World} (x : Ext w) (n i : Nat) (h : n < w.heap.size) : (grow w x).cell? ⟨n, i, none⟩ = w.cell? ⟨n, i, none⟩ := x.below.cell (p := ⟨n, i, none⟩) h
@[go_sem] theorem frozen_grow {w : World} (x : Ext w) (n i : Nat) (h : n < w.heap.size) : (grow w x).frozen? ⟨n, i, none⟩ = w.frozen? ⟨n, i, none⟩ := x.below.frozen (p := ⟨n, i, none⟩) h
@[go_sem] theorem lt_size_grow {w : World} (x : Ext w) (n : Nat) (h : n < w.heap.size) : (n < (grow w x).heap.size) = True := eq_true (Nat.lt_of_lt_of_le h x.below.size)
@[go_sem] theorem size_ne_grow {w : World} (x : Ext w) (n : Nat) (h : n < w.heap.size) : (n = (grow w x).heap.size) = False := eq_false (Nat.ne_of_lt (Nat.lt_of_lt_of_le h x.below.size))
theorem size_grow {w : World} (x : Ext w) : w.heap.size ≤ (grow w x).heap.size := x.below.size

theorem setCell_block_same (w : World) (a : Addr) (v : Value) (k : Nat) (h : k ≠ a.block) : (w.setCell a v).heap[k]? = w.heap[k]? := Below.heap_setCell _ _ _ _ h
def Ext.setCell {w : World} (x : Ext w) (a : Addr) (v : Value) : Ext (w.setCell a v) := ⟨x.to.setCell a v, by
  refine ⟨x.below.os, x.below.tape, x.below.output, by simpa using x.below.size, fun k hk => ?_⟩
  have hk' : k < w.heap.size := by simpa using hk
  simp only [World.setCell, Array.getElem?_modify, x.below.block k hk']⟩
@[go_sem] theorem setCell_grow {w : World} (x : Ext w) (n i : Nat) (v : Value) (_h : n < w.heap.size) : (grow w x).setCell ⟨n, i, none⟩ v = grow (w.setCell ⟨n, i, none⟩ v) (x.setCell ⟨n, i, none⟩ v) := rfl

/-! ### The same where the address is known by arithmetic alone: an 'if' that the walk decides -/
def cellNew (w : World) (x : Ext w) (n i : Nat) : Option Value := (grow w x).cell? ⟨n, i, none⟩
def frozenNew (w : World) (x : Ext w) (n i : Nat) : Bool := (grow w x).frozen? ⟨n, i, none⟩
@[go_sem low] theorem cell_grow_if {w : World} (x : Ext w) (n i : Nat) : (grow w x).cell? ⟨n, i, none⟩ = if n < w.heap.size then w.cell? ⟨n, i, none⟩ else cellNew w x n i := by
  split
  · rename_i h; exact cell_grow x n i h
  · rfl
@[go_sem low] theorem frozen_grow_if {w : World} (x : Ext w) (n i : Nat) : (grow w x).frozen? ⟨n, i, none⟩ = if n < w.heap.size then w.frozen? ⟨n, i, none⟩ else frozenNew w x n i := by
  split
  · rename_i h; exact frozen_grow x n i h
  · rfl
@[go_sem low] theorem cell_alloc_if {w : World} (c : Array Value) (t : TypeId) (n i : Nat) : (w.alloc (.cells c t)).cell? ⟨n, i, none⟩ = if n = w.heap.size then c[i]? else w.cell? ⟨n, i, none⟩ := by
  split
  · rename_i h; exact World.cell?_alloc_at (w := w) c t n i h
  · rename_i h; exact World.cell?_alloc_old _ _ (⟨n, i, none⟩ : Addr) h
@[go_sem low] theorem frozen_alloc_if {w : World} (c : Array Value) (t : TypeId) (n i : Nat) : (w.alloc (.cells c t)).frozen? ⟨n, i, none⟩ = if n = w.heap.size then false else w.frozen? ⟨n, i, none⟩ := by
  split
  · rename_i h; exact World.frozen?_alloc_at (w := w) c t n i h
  · rename_i h; exact World.frozen?_alloc_old _ _ (⟨n, i, none⟩ : Addr) h
def setNew (w : World) (n i : Nat) (v : Value) : World := w.setCell ⟨n, i, none⟩ v
@[go_sem low] theorem setCell_grow_if {w : World} (x : Ext w) (n i : Nat) (v : Value) : (grow w x).setCell ⟨n, i, none⟩ v = if n < w.heap.size then grow (w.setCell ⟨n, i, none⟩ v) (x.setCell ⟨n, i, none⟩ v) else setNew (grow w x) n i v := by
  split <;> rfl
@[go_sem low] theorem setCell_alloc_if {w : World} (c : Array Value) (t : TypeId) (n i : Nat) (v : Value) : (w.alloc (.cells c t)).setCell ⟨n, i, none⟩ v = if n = w.heap.size then w.alloc (.cells (c.setIfInBounds i v) t) else if n < w.heap.size then (w.setCell ⟨n, i, none⟩ v).alloc (.cells c t) else setNew (w.alloc (.cells c t)) n i v := by
  split
  · rename_i h; exact World.setCell_alloc_at (w := w) c t n i v h
  · split
    · rename_i h; exact World.setCell_alloc_past (w := w) _ n i v h
    · rfl
theorem size_grow_le {w : World} (x : Ext w) {n : Nat} (h : n ≤ w.heap.size) : n ≤ (grow w x).heap.size := Nat.le_trans h x.below.size

@[go_sem low] theorem cell_setCell_if {w : World} (m j : Nat) (v : Value) (n i : Nat) : (w.setCell ⟨m, j, none⟩ v).cell? ⟨n, i, none⟩ = if n = m ∧ i = j then (if (w.cell? ⟨m, j, none⟩).isSome then some v else none) else w.cell? ⟨n, i, none⟩ := by
  split
  · rename_i h
    obtain ⟨rfl, rfl⟩ := h
    split
    · rename_i h
      obtain ⟨u, hu⟩ := Option.isSome_iff_exists.1 h
      exact World.cell?_setCell_same _ _ _ hu
    · rename_i h
      have hn : w.cell? ⟨n, i, none⟩ = none := by simpa using h
      unfold World.cell? at hn ⊢
      simp only [World.setCell, Array.getElem?_modify, ↓reduceIte] at hn ⊢
      cases hb : w.heap[n]? with
      | none => simp
      | some o => cases o <;> simp_all
  · rename_i h
    exact World.cell?_setCell_other _ _ _ _ (fun e => h (by cases e; exact ⟨rfl, rfl⟩))

/-- A store of what is there. -/
theorem setCell_self {w : World} {n i : Nat} {v : Value} (h : w.cell? ⟨n, i, none⟩ = some v) : w.setCell ⟨n, i, none⟩ v = w := by
  have hh : (w.setCell ⟨n, i, none⟩ v).heap = w.heap := by
    apply Array.ext_getElem?
    intro j
    simp only [World.setCell, Array.getElem?_modify]
    split
    · rename_i e
      subst e
      unfold World.cell? at h
      split at h
      · rename_i c e f hb
        simp only [Option.isSome_none, Bool.false_eq_true, if_false] at h
        rw [hb]
        simp only [Option.map_some, Option.isSome_none, Bool.false_eq_true, if_false]
        congr 2
        apply Array.ext_getElem?
        intro k
        rw [Array.getElem?_setIfInBounds]
        split
        · rename_i e; subst e; split
          · exact h.symm
          · rename_i hk; rw [Array.getElem?_eq_none (by omega)] at h; cases h
        · rfl
      · cases h
    · rfl
  cases w
  simp only [World.setCell] at hh ⊢
  rw [hh]

theorem setCell_twice (w : World) (n i : Nat) (u v : Value) : (w.setCell ⟨n, i, none⟩ u).setCell ⟨n, i, none⟩ v = w.setCell ⟨n, i, none⟩ v := by
  have hh : ((w.setCell ⟨n, i, none⟩ u).setCell ⟨n, i, none⟩ v).heap = (w.setCell ⟨n, i, none⟩ v).heap := by
    apply Array.ext_getElem?
    intro j
    simp only [World.setCell, Array.getElem?_modify]
    split
    · cases w.heap[j]? with
      | none => rfl
      | some o => cases o <;> simp [Array.setIfInBounds_setIfInBounds]
    · rfl
  simp only [World.setCell] at hh ⊢
  rw [hh]
theorem setCell_swap (w : World) (n i j : Nat) (u v : Value) (h : i ≠ j) : (w.setCell ⟨n, i, none⟩ u).setCell ⟨n, j, none⟩ v = (w.setCell ⟨n, j, none⟩ v).setCell ⟨n, i, none⟩ u := by
  have hh : ((w.setCell ⟨n, i, none⟩ u).setCell ⟨n, j, none⟩ v).heap = ((w.setCell ⟨n, j, none⟩ v).setCell ⟨n, i, none⟩ u).heap := by
    apply Array.ext_getElem?
    intro k
    simp only [World.setCell, Array.getElem?_modify]
    split
    · cases w.heap[k]? with
      | none => rfl
      | some o => cases o <;> simp [Array.setIfInBounds_comm _ _ h]
    · rfl
  simp only [World.setCell] at hh ⊢
  rw [hh]

/-- What a walk is told of the world behind a call that made memory of its own alone. -/
theorem Gr.facts {w w' : World} (h : Gr w w') : ∃ (cN : Nat → Nat → Option Value) (fN : Nat → Nat → Bool), (∀ n i, w'.cell? ⟨n, i, none⟩ = if n < w.heap.size then w.cell? ⟨n, i, none⟩ else cN n i) ∧
    (∀ n i, w'.frozen? ⟨n, i, none⟩ = if n < w.heap.size then w.frozen? ⟨n, i, none⟩ else fN n i) ∧ w.heap.size ≤ w'.heap.size := by
  obtain ⟨x, rfl⟩ := h
  exact ⟨cellNew w x, frozenNew w x, fun n i => cell_grow_if x n i, fun n i => frozen_grow_if x n i, size_grow x⟩

/-- The contract of a function that makes memory of its own alone, met in a region that draws its order. -/
theorem Calls.gr_of {P : Program} {f : FuncId} {args : Array Value} {w : World} {x : Ext w} {v : Value}
    (h : Calls P f args (grow w x) fun e w' => e = .returned v ∧ Gr (grow w x) w') : Calls P f args (grow w x) fun e w'' => e = .returned v ∧ ∃ y : Ext w, w'' = grow w y :=
  h.mono fun _ _ ⟨he, hg⟩ => ⟨he, ((Gr.refl w).grow x).trans hg⟩

/-- A region that draws its order, whose operations read and whose callees make memory of their own alone. -/
theorem wp_region_grows {P : Program} {id : Nat} {Q : Exit → Act → World → Prop} {a : Act} {w : World} {l : List Oper} (hm : P.follows .mixedOrders = true) (hB : Region.lexB .any l.toArray = true)
    (h : wpQuiet P l.toArray (fun w' => ∃ x : Ext w, w' = grow w x) (fun a' => ∀ w', (∃ x : Ext w, w' = grow w x) → Q .normal a' w') l a) : (Code.region id l.toArray true).wp P Q a w :=
  wp_region_quiet (C := fun w' => ∃ x : Ext w, w' = grow w x) hm hB ((Gr.refl w).drew) (by simpa using h)

end Go.Proofs.YtccpepheooleoaaDoor
