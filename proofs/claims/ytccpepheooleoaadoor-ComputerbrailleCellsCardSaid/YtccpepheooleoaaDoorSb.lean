/- Symbolic runs, part b: symbolic cells, blocks and states, and what they say of a machine's state. -/
import Derived.Test.YtccpepheooleoaaDoorSa
namespace Go.Proofs.YtccpepheooleoaaDoor
set_option linter.unusedSimpArgs false
set_option linter.unusedVariables false
set_option linter.unusedSectionVars false
open Go.RowKit

/-! ### Two lists, place by place -/
def All2 {α β : Type} (R : α → β → Prop) (xs : List α) (ys : List β) : Prop := xs.length = ys.length ∧ ∀ (i : Nat) (x : α) (y : β), xs[i]? = some x → ys[i]? = some y → R x y
section
variable {α β : Type} {R S : α → β → Prop} {xs : List α} {ys : List β}
theorem All2.nil : All2 R [] [] := ⟨rfl, fun i x y h => by simp at h⟩
theorem All2.cons {x : α} {y : β} (h : R x y) (t : All2 R xs ys) : All2 R (x :: xs) (y :: ys) :=
  ⟨by simp [t.1], fun i a b ha hb => by
    cases i with
    | zero => simp at ha hb; rw [← ha, ← hb]; exact h
    | succ i => exact t.2 i a b (by simpa using ha) (by simpa using hb)⟩
theorem All2.mono (h : All2 R xs ys) (k : ∀ x y, R x y → S x y) : All2 S xs ys := ⟨h.1, fun i x y hx hy => k _ _ (h.2 i x y hx hy)⟩
theorem All2.mono_mem (h : All2 R xs ys) (k : ∀ x y, x ∈ xs → R x y → S x y) : All2 S xs ys := ⟨h.1, fun i x y hx hy => k _ _ (List.mem_of_getElem? hx) (h.2 i x y hx hy)⟩
theorem All2.get {i : Nat} {x : α} (h : All2 R xs ys) (hx : xs[i]? = some x) : ∃ y, ys[i]? = some y ∧ R x y := by
  have hi : i < xs.length := (List.getElem?_eq_some_iff.1 hx).1
  have hj : i < ys.length := by rw [← h.1]; exact hi
  exact ⟨ys[i], List.getElem?_eq_getElem hj, h.2 i x _ hx (List.getElem?_eq_getElem hj)⟩
theorem All2.getr {i : Nat} {y : β} (h : All2 R xs ys) (hy : ys[i]? = some y) : ∃ x, xs[i]? = some x ∧ R x y := by
  have hi : i < ys.length := (List.getElem?_eq_some_iff.1 hy).1
  have hj : i < xs.length := by rw [h.1]; exact hi
  exact ⟨xs[i], List.getElem?_eq_getElem hj, h.2 i _ y (List.getElem?_eq_getElem hj) hy⟩
theorem All2.set (h : All2 R xs ys) (i : Nat) {x : α} {y : β} (hr : R x y) : All2 R (xs.set i x) (ys.set i y) := by
  refine ⟨by simp [h.1], fun j a b ha hb => ?_⟩
  rw [List.getElem?_set] at ha hb
  by_cases hij : i = j
  · rw [if_pos hij] at ha hb
    split at ha
    · split at hb
      · simp at ha hb; rw [← ha, ← hb]; exact hr
      · cases hb
    · cases ha
  · rw [if_neg hij] at ha hb; exact h.2 j a b ha hb
theorem All2.append {xs' : List α} {ys' : List β} (h : All2 R xs ys) (k : All2 R xs' ys') : All2 R (xs ++ xs') (ys ++ ys') := by
  refine ⟨by simp [h.1, k.1], fun i a b ha hb => ?_⟩
  rw [List.getElem?_append] at ha hb
  rw [← h.1] at hb
  split at ha
  · rename_i hi; rw [if_pos hi] at hb; exact h.2 i a b ha hb
  · rename_i hi; rw [if_neg hi] at hb; exact k.2 _ a b ha hb
theorem All2.drop (h : All2 R xs ys) (n : Nat) : All2 R (xs.drop n) (ys.drop n) :=
  ⟨by simp [h.1], fun i a b ha hb => h.2 (n + i) a b (by simpa [List.getElem?_drop] using ha) (by simpa [List.getElem?_drop] using hb)⟩
theorem All2.take (h : All2 R xs ys) (n : Nat) : All2 R (xs.take n) (ys.take n) := by
  refine ⟨by simp [h.1], fun i a b ha hb => ?_⟩
  rw [List.getElem?_take] at ha hb
  split at ha
  · rename_i hi; rw [if_pos hi] at hb; exact h.2 i a b ha hb
  · cases ha
theorem All2.rep (n : Nat) {x : α} {y : β} (h : R x y) : All2 R (List.replicate n x) (List.replicate n y) :=
  ⟨by simp, fun i a b ha hb => by simp [List.getElem?_replicate] at ha hb; rw [← ha.2, ← hb.2]; exact h⟩
end

/-! ### Symbolic cells -/
inductive SC where
  | undef
  | int (k : IntKind) (e : E)
  | bool (e : E)
  | str (e : E)
  | nil
  | imm (fr ag : Bool) (cs : List CT) (e : E)
  | own (b ver : Nat)
  | sub (b ver : Nat) (lo hi : E)
  | ptr (b ver : Nat) (i : E) (c : Nat)
  | pel (fr ag : Bool) (cs : List CT) (e i : E) (c : Nat)
  | fn (f : FuncId) (caps : List (Nat × Nat))
  | lit (v : Value)
inductive SV where
  | sc (s : SC)
  | agg (cs : List SC)
  | tup (vs : List (Bool × List SC))
inductive Cont where
  | dead
  | box (cs : List SC)
  | row (e : E)
structure Blk where
  ver : Nat
  own : Bool
  fr : Bool
  ety : TypeId
  ag : Bool
  cs : List CT
  cont : Cont

def Blk.len (Γ : CEnv) (ρ : List TV) (b : Blk) : Option Nat := match b.cont with
  | .row e => some (e.den Γ ρ).asList.length
  | .box _ => some 1
  | .dead => none
def Blk.size (b : Blk) : Nat := match b.cont with
  | .box cs => cs.length
  | _ => b.cs.length
def Blk.live (b : Blk) : Bool := match b.cont with
  | .dead => false
  | .box _ => true
  | .row _ => b.own

/-- The block number behind a slice or a pointer. -/
def gOf : Value → Option Nat
  | .slice (some a) _ _ => some a.block
  | .pointer (some a) => some a.block
  | _ => none

def stable (w : World) (G : Nat → Prop) : Mem := fun g o => w.heap[g]? = some o ∧ ¬ G g
def fresh (w : World) (G : Nat → Prop) (B : Nat) : Mem := fun g o => w.heap[g]? = some o ∧ ¬ G g ∧ B ≤ g
theorem fresh_le (w : World) (G : Nat → Prop) (B : Nat) : Mem.le (fresh w G B) (stable w G) := fun _ _ h => ⟨h.1, h.2.1⟩

section
variable (Γ : CEnv) (ρ : List TV) (hp : List Blk) (as : List Value) (M Mf : Mem)

def RefTo (b ver : Nat) (X : Blk → Value → Prop) : Prop := ∃ blk va, hp[b]? = some blk ∧ as[b]? = some va ∧ ver ≤ blk.ver ∧ (blk.ver = ver → X blk va)

def SubX (lo hi : Int) (v : Value) (blk : Blk) (va : Value) : Prop :=
  ∃ n, blk.len Γ ρ = some n ∧ 0 ≤ lo ∧ lo ≤ hi ∧ hi ≤ n ∧ ∃ a cap, v = .slice a (hi - lo).toNat cap ∧ (hi - lo).toNat ≤ cap ∧ cap ≤ maxLen ∧ (a = none → cap = 0) ∧
    (lo = hi ∨ ∃ g l c, va = .slice (some ⟨g, 0, none⟩) l c ∧ a = some ⟨g, lo.toNat * blk.size, none⟩)
def PtrX (i : Int) (c : Nat) (v : Value) (blk : Blk) (va : Value) : Prop :=
  ∃ n g, blk.len Γ ρ = some n ∧ 0 ≤ i ∧ i < n ∧ gOf va = some g ∧ v = .pointer (some ⟨g, i.toNat * blk.size + c, none⟩)

def RepPtr (b ver : Nat) (i : Int) (c : Nat) (v : Value) : Prop := RefTo hp as b ver (PtrX Γ ρ i c v)

def pick (fr : Bool) : Mem := if fr then Mf else M

def RepC : SC → Value → Prop
  | .undef, _ => True
  | .int k e, v => v = .int k (e.den Γ ρ).asInt
  | .bool e, v => v = .bool (e.den Γ ρ).asBool
  | .str e, v => v = .string ⟨(e.den Γ ρ).asStr.toArray⟩
  | .nil, v => v = .slice none 0 0
  | .imm fr ag cs e, v => RepT (pick M Mf fr) (.slice ag cs) (e.den Γ ρ) v
  | .own b ver, v => v.oneCell' = true ∧ RefTo hp as b ver fun blk va => v = va ∧ ∃ e, blk.cont = .row e
  | .sub b ver lo hi, v => v.oneCell' = true ∧ RefTo hp as b ver fun blk va => SubX Γ ρ (lo.den Γ ρ).asInt (hi.den Γ ρ).asInt v blk va ∧ ∃ e, blk.cont = .row e
  | .ptr b ver i c, v => v.oneCell' = true ∧ RepPtr Γ ρ hp as b ver (i.den Γ ρ).asInt c v
  | .pel fr ag cs e i c, v => ∃ g off cap, RepT (pick M Mf fr) (.slice ag cs) (e.den Γ ρ) (.slice (some ⟨g, off, none⟩) (e.den Γ ρ).asList.length cap) ∧ 0 ≤ (i.den Γ ρ).asInt ∧ (i.den Γ ρ).asInt < (e.den Γ ρ).asList.length ∧
      v = .pointer (some ⟨g, off + (i.den Γ ρ).asInt.toNat * cs.length + c, none⟩)
  | .fn f caps, v => ∃ vs : List Value, v = .func (.func f) #[] vs.toArray ∧ All2 (fun (x : Nat × Nat) u => u.oneCell' = true ∧ RepPtr Γ ρ hp as x.1 x.2 0 0 u) caps vs
  | .lit u, v => v = u

def RepCs (cs : List SC) (vs : List Value) : Prop := All2 (RepC Γ ρ hp as M Mf) cs vs
def RepP (x : Bool × List SC) (v : Value) : Prop := if x.1 then ∃ vs, v = .agg vs ∧ RepCs Γ ρ hp as M Mf x.2 vs.toList else ∃ s, x.2 = [s] ∧ RepC Γ ρ hp as M Mf s v
def RepV : SV → Value → Prop
  | .sc s, v => RepC Γ ρ hp as M Mf s v
  | .agg cs, v => ∃ vs, v = .agg vs ∧ RepCs Γ ρ hp as M Mf cs vs.toList
  | .tup ps, v => ∃ vs, v = .tuple vs ∧ All2 (RepP Γ ρ hp as M Mf) ps vs.toList

/-- A row that lies at the head of its block, or nil. -/
def HeadOrNil (va : Value) : Prop := va = .slice none 0 0 ∨ ∃ g l c, va = .slice (some ⟨g, 0, none⟩) l c
def BlkRel (B : Nat) (w : World) (blk : Blk) (va : Value) : Prop := match blk.cont with
  | .dead => True
  | .box cs => ∃ g cur, va = .pointer (some ⟨g, 0, none⟩) ∧ B ≤ g ∧ w.heap[g]? = some (.cells cur blk.ety (0, 0)) ∧ RepCs Γ ρ hp as M Mf cs cur.toList
  | .row e => if blk.own then ∃ xs, w.ownsRow B blk.ety blk.cs.length va (e.den Γ ρ).asList.length xs ∧ RowT (pick M Mf blk.fr) blk.ag blk.cs (e.den Γ ρ).asList xs
    else RepT (pick M Mf blk.fr) (.slice blk.ag blk.cs) (e.den Γ ρ) va ∧ HeadOrNil va
end

/-! ### States -/
structure SS where
  frames : List (List SV)
  heap : List Blk
  nv : Nat
  lvl : Nat

/-- The tables that are read: where they lie and of what their elements are. -/
abbrev GT := List (Nat × Bool × List CT)

structure Rel (Γ : CEnv) (gt : GT) (ρ : List TV) (B : Nat) (G : Nat → Prop) (st : SS) (as : List Value) (vss : List (Array Value)) (w : World) : Prop where
  nv : st.nv = ρ.length
  frames : All2 (fun svs (vals : Array Value) => All2 (RepV Γ ρ st.heap as (stable w G) (fresh w G B)) svs vals.toList) st.frames vss
  alen : as.length = st.heap.length
  blks : ∀ (b : Nat) (blk : Blk) (va : Value), st.heap[b]? = some blk → as[b]? = some va → BlkRel Γ ρ st.heap as (stable w G) (fresh w G B) B w blk va
  own : ∀ (b : Nat) (blk : Blk) (va : Value) (g : Nat), st.heap[b]? = some blk → as[b]? = some va → blk.live = true → gOf va = some g → G g
  dist : ∀ (b b' : Nat) (blk blk' : Blk) (va va' : Value) (g : Nat), st.heap[b]? = some blk → as[b]? = some va → blk.live = true → gOf va = some g → st.heap[b']? = some blk' → as[b']? = some va' → blk'.live = true → gOf va' = some g → b = b'
  base : B ≤ w.heap.size
  gs : ∀ g, G g → B ≤ g ∧ g < w.heap.size
  globs : ∀ g ag cs, (g, ag, cs) ∈ gt → RepT (stable w G) (.slice ag cs) (Γ.glob g) (.slice (some ⟨g, 0, none⟩) (Γ.glob g).asList.length (Γ.glob g).asList.length) ∧ 0 < (Γ.glob g).asList.length

/-! ### What a step keeps -/
structure Tr (Γ : CEnv) (ρ : List TV) (hp : List Blk) (as : List Value) (hp' : List Blk) (as' : List Value) : Prop where
  blk : ∀ (b : Nat) (blk : Blk) (va : Value), hp[b]? = some blk → as[b]? = some va → ∃ (blk' : Blk) (va' : Value), hp'[b]? = some blk' ∧ as'[b]? = some va' ∧ blk.ver ≤ blk'.ver ∧
    (blk'.ver = blk.ver → va' = va ∧ blk'.size = blk.size ∧ blk'.len Γ ρ = blk.len Γ ρ ∧ ∀ e, blk.cont = .row e → ∃ e', blk'.cont = .row e')
theorem Tr.refl (Γ : CEnv) (ρ : List TV) (hp : List Blk) (as : List Value) : Tr Γ ρ hp as hp as := ⟨fun b blk va h1 h2 => ⟨blk, va, h1, h2, Nat.le_refl _, fun _ => ⟨rfl, rfl, rfl, fun e h => ⟨e, h⟩⟩⟩⟩

section
variable {Γ : CEnv} {ρ : List TV} {hp hp' : List Blk} {as as' : List Value} {M Mf M' Mf' : Mem}
theorem Tr.refTo (tr : Tr Γ ρ hp as hp' as') {b ver : Nat} {X Y : Blk → Value → Prop} (h : RefTo hp as b ver X)
    (k : ∀ blk va blk', X blk va → blk'.size = blk.size → blk'.len Γ ρ = blk.len Γ ρ → (∀ e, blk.cont = .row e → ∃ e', blk'.cont = .row e') → Y blk' va) : RefTo hp' as' b ver Y := by
  obtain ⟨blk, va, h1, h2, h3, h4⟩ := h
  obtain ⟨blk', va', g1, g2, g3, g4⟩ := tr.blk b blk va h1 h2
  refine ⟨blk', va', g1, g2, Nat.le_trans h3 g3, fun e => ?_⟩
  have e1 : blk.ver = ver := by omega
  obtain ⟨rfl, e2, e3, e4⟩ := g4 (by omega)
  exact k blk _ blk' (h4 e1) e2 e3 e4
theorem RepPtr.tr (tr : Tr Γ ρ hp as hp' as') {b ver : Nat} {i : Int} {c : Nat} {v : Value} (h : RepPtr Γ ρ hp as b ver i c v) : RepPtr Γ ρ hp' as' b ver i c v :=
  tr.refTo h fun blk va blk' ⟨n, g, h1, h2, h3, h4, h5⟩ e2 e3 _ => ⟨n, g, by rw [e3]; exact h1, h2, h3, h4, by rw [e2]; exact h5⟩
theorem pick_le (h : Mem.le M M') (h' : Mem.le Mf Mf') (fr : Bool) : Mem.le (pick M Mf fr) (pick M' Mf' fr) := by
  cases fr
  · exact h
  · exact h'
theorem RepC.tr (tr : Tr Γ ρ hp as hp' as') (h : Mem.le M M') (h' : Mem.le Mf Mf') {s : SC} {v : Value} (r : RepC Γ ρ hp as M Mf s v) : RepC Γ ρ hp' as' M' Mf' s v := by
  cases s with
  | undef => trivial
  | int k e => exact r
  | bool e => exact r
  | str e => exact r
  | nil => exact r
  | imm fr ag cs e => exact RepT.mono (pick_le h h' fr) r
  | own b ver => exact ⟨r.1, tr.refTo r.2 fun blk va blk' ⟨x, e, hx⟩ _ _ k => ⟨x, k e hx⟩⟩
  | sub b ver off len =>
    refine ⟨r.1, tr.refTo r.2 fun blk va blk' ⟨⟨n, h1, h2, h3, h4, a, cap, h5, h6, h7, h8, h9⟩, e, hx⟩ e2 e3 k => ⟨⟨n, by rw [e3]; exact h1, h2, h3, h4, a, cap, h5, h6, h7, h8, ?_⟩, k e hx⟩⟩
    rcases h9 with h9 | ⟨g, l, c, h9, h10⟩
    · exact .inl h9
    · exact .inr ⟨g, l, c, h9, by rw [e2]; exact h10⟩
  | ptr b ver i c => exact ⟨r.1, RepPtr.tr tr r.2⟩
  | pel fr ag cs e i c => obtain ⟨g, off, cap, h1, h2⟩ := r; exact ⟨g, off, cap, h1.mono (pick_le h h' fr), h2⟩
  | fn f caps => obtain ⟨vs, h1, h2⟩ := r; exact ⟨vs, h1, h2.mono fun _ _ hx => ⟨hx.1, RepPtr.tr tr hx.2⟩⟩
  | lit u => exact r
theorem RepCs.tr (tr : Tr Γ ρ hp as hp' as') (h : Mem.le M M') (h' : Mem.le Mf Mf') {s : List SC} {v : List Value} (r : RepCs Γ ρ hp as M Mf s v) : RepCs Γ ρ hp' as' M' Mf' s v := All2.mono r fun _ _ => RepC.tr tr h h'
theorem RepP.tr (tr : Tr Γ ρ hp as hp' as') (h : Mem.le M M') (h' : Mem.le Mf Mf') {s : Bool × List SC} {v : Value} (r : RepP Γ ρ hp as M Mf s v) : RepP Γ ρ hp' as' M' Mf' s v := by
  unfold RepP at *
  split at r
  · obtain ⟨vs, h1, h2⟩ := r; rw [if_pos ‹_›]; exact ⟨vs, h1, h2.tr tr h h'⟩
  · obtain ⟨s, h1, h2⟩ := r; rw [if_neg ‹_›]; exact ⟨s, h1, h2.tr tr h h'⟩
theorem RepV.tr (tr : Tr Γ ρ hp as hp' as') (h : Mem.le M M') (h' : Mem.le Mf Mf') {s : SV} {v : Value} (r : RepV Γ ρ hp as M Mf s v) : RepV Γ ρ hp' as' M' Mf' s v := by
  cases s with
  | sc s => exact RepC.tr tr h h' r
  | agg cs => obtain ⟨vs, h1, h2⟩ := r; exact ⟨vs, h1, h2.tr tr h h'⟩
  | tup ps => obtain ⟨vs, h1, h2⟩ := r; exact ⟨vs, h1, h2.mono fun _ _ => RepP.tr tr h h'⟩
theorem BlkRel.tr (tr : Tr Γ ρ hp as hp' as') (h : Mem.le M M') (h' : Mem.le Mf Mf') {B : Nat} {w w' : World} {blk : Blk} {va : Value} (r : BlkRel Γ ρ hp as M Mf B w blk va)
    (hw : blk.live = true → ∀ g, gOf va = some g → w'.heap[g]? = w.heap[g]?) : BlkRel Γ ρ hp' as' M' Mf' B w' blk va := by
  unfold BlkRel at *
  cases hc : blk.cont with
  | dead => trivial
  | box cs =>
    simp only [hc] at r ⊢
    obtain ⟨g, cur, h1, h2, h3, h4⟩ := r
    exact ⟨g, cur, h1, h2, by rw [hw (by simp [Blk.live, hc]) g (by rw [h1]; rfl)]; exact h3, h4.tr tr h h'⟩
  | row e =>
    simp only [hc] at r ⊢
    by_cases ho : blk.own = true
    · rw [if_pos ho] at r ⊢
      obtain ⟨xs, h1, h2⟩ := r
      refine ⟨xs, ⟨h1.1, ?_⟩, h2.mono (pick_le h h' _)⟩
      rcases h1.2 with h1 | ⟨g, cap, cur, k1, k2, k3, k4⟩
      · exact .inl h1
      · exact .inr ⟨g, cap, cur, k1, k2, by rw [hw (by simp [Blk.live, hc, ho]) g (by rw [k1]; rfl)]; exact k3, k4⟩
    · rw [if_neg ho] at r ⊢
      exact ⟨r.1.mono (pick_le h h' _), r.2⟩
end

/-- Only the blocks named by b are other than they were. -/
theorem Rel.step {Γ : CEnv} {gt : GT} {ρ : List TV} {B : Nat} {G G' : Nat → Prop} {st : SS} {as as' : List Value} {vss : List (Array Value)} {w w' : World} (r : Rel Γ gt ρ B G st as vss w) (hp' : List Blk)
    (tr : Tr Γ ρ st.heap as hp' as') (m : Mem.le (stable w G) (stable w' G')) (mf : Mem.le (fresh w G B) (fresh w' G' B)) (alen : as'.length = hp'.length)
    (blks : ∀ (b : Nat) (blk : Blk) (va : Value), hp'[b]? = some blk → as'[b]? = some va → BlkRel Γ ρ hp' as' (stable w' G') (fresh w' G' B) B w' blk va)
    (own : ∀ (b : Nat) (blk : Blk) (va : Value) (g : Nat), hp'[b]? = some blk → as'[b]? = some va → blk.live = true → gOf va = some g → G' g)
    (dist : ∀ (b b' : Nat) (blk blk' : Blk) (va va' : Value) (g : Nat), hp'[b]? = some blk → as'[b]? = some va → blk.live = true → gOf va = some g → hp'[b']? = some blk' → as'[b']? = some va' → blk'.live = true → gOf va' = some g → b = b')
    (base : B ≤ w'.heap.size) (gs : ∀ g, G' g → B ≤ g ∧ g < w'.heap.size) : Rel Γ gt ρ B G' { st with heap := hp' } as' vss w' where
  nv := r.nv
  frames := r.frames.mono fun _ _ h => h.mono fun _ _ => RepV.tr tr m mf
  alen := alen
  blks := blks
  own := own
  dist := dist
  base := base
  gs := gs
  globs := fun g ag cs h => ⟨(r.globs g ag cs h).1.mono m, (r.globs g ag cs h).2⟩
end Go.Proofs.YtccpepheooleoaaDoor
