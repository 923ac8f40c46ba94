/- Symbolic runs, part r: one operation, calls among them. -/
import Derived.Test.YtccpepheooleoaaDoorSq
namespace Go.Proofs.YtccpepheooleoaaDoor
set_option linter.unusedSimpArgs false
set_option linter.unusedVariables false
set_option linter.unusedSectionVars false
open Go.RowKit

/-! ### Results of a call, symbolically -/
def resE (single : Bool) (n i : Nat) : E := if single then .v n else .o1 (.proj i) (.v n)
def flatCells (ag : Bool) (te : E) : List (CT × Option TypeId) → Nat → List ((CT × Option TypeId) × E)
  | [], _ => []
  | x :: r, c => (x, elemE ag te c) :: flatCells ag te r (c + 1)
def flatRes (single : Bool) (n : Nat) : List (Bool × List (CT × Option TypeId)) → Nat → List ((CT × Option TypeId) × E)
  | [], _ => []
  | x :: r, i => flatCells x.1 (resE single n i) x.2 0 ++ flatRes single n r (i + 1)
def regroup : List (Bool × List (CT × Option TypeId)) → List SC → List (Bool × List SC)
  | [], _ => []
  | x :: r, cells => (x.1, cells.take x.2.length) :: regroup r (cells.drop x.2.length)
def resSV (ps : List (Bool × List SC)) : SV := match ps with
  | [(false, [s])] => .sc s
  | [(true, cs)] => .agg cs
  | ps => .tup ps
def resState (st : SS) (s : Sig) : SS × SV := match adoptCells (flatRes (Nat.beq s.res.length 1) st.nv s.res 0) st.heap with
  | (cells, hp) => ({ st with heap := hp, nv := st.nv + 1 }, resSV (regroup s.res cells))

section
variable {Γ : CEnv} {gt : GT} {ρ : List TV} {B : Nat} {G : Nat → Prop} {st : SS} {as : List Value} {vss : List (Array Value)} {w : World} {P : Program}

theorem flatCells_types (ag : Bool) (te : E) : ∀ (cs : List (CT × Option TypeId)) (c : Nat), (flatCells ag te cs c).map (·.1) = cs
  | [], _ => rfl
  | x :: r, c => by simp only [flatCells, List.map_cons, flatCells_types ag te r]
theorem flatRes_types (single : Bool) (n : Nat) : ∀ (res : List (Bool × List (CT × Option TypeId))) (i : Nat), (flatRes single n res i).map (·.1) = resTypes res
  | [], _ => rfl
  | x :: r, i => by simp only [flatRes, List.map_append, flatCells_types, flatRes_types single n r, resTypes]
theorem flatCells_tv (ag : Bool) (te : E) : ∀ (cs : List (CT × Option TypeId)) (c : Nat), (flatCells ag te cs c).map (fun x => (x.1, x.2.den Γ ρ)) = cellsTV ag (te.den Γ ρ) cs c
  | [], _ => rfl
  | x :: r, c => by simp only [flatCells, List.map_cons, flatCells_tv ag te r, cellsTV, elemE_den]
theorem flatRes_tv {single : Bool} {n : Nat} {r : TV} (h : ∀ j, (resE single n j).den Γ ρ = if single then r else r.cell j) : ∀ (res : List (Bool × List (CT × Option TypeId))) (i : Nat), (flatRes single n res i).map (fun x => (x.1, x.2.den Γ ρ)) = flatTV single r res i
  | [], _ => rfl
  | x :: rs, i => by simp only [flatRes, List.map_append, flatCells_tv, h, flatRes_tv h rs, flatTV]
theorem regroup_rep {hp : List Blk} {M Mf : Mem} : ∀ {res : List (Bool × List (CT × Option TypeId))} {vs : List Value} {cells : List SC}, vs.length = res.length →
    (∀ (j : Nat) x u, res[j]? = some x → vs[j]? = some u → ResShape x u) → RepCs Γ ρ hp as M Mf cells (flatVals res vs) → All2 (RepP Γ ρ hp as M Mf) (regroup res cells) vs
  | [], vs, cells, hl, h, hc => by
    have : vs = [] := List.eq_nil_of_length_eq_zero hl
    subst this
    exact All2.nil
  | x :: res, [], cells, hl, h, hc => by simp at hl
  | x :: res, v :: vs, cells, hl, h, hc => by
    have h0 := h 0 x v rfl rfl
    have hlen : (flatV x v).length = x.2.length := by
      unfold ResShape at h0
      unfold flatV
      split at h0
      · obtain ⟨a, rfl, e⟩ := h0
        rw [if_pos ‹_›]
        simpa [Value.cells] using e
      · rw [if_neg ‹_›, h0]
        rfl
    have h1 := hc.take x.2.length
    have h2 := hc.drop x.2.length
    simp only [flatVals] at h1 h2
    rw [← hlen, List.take_left] at h1
    rw [← hlen, List.drop_left] at h2
    rw [hlen] at h1 h2
    refine All2.cons ?_ (regroup_rep (by simpa using hl) (fun j y u hy hu => h (j + 1) y u (by simpa using hy) (by simpa using hu)) h2)
    unfold RepP
    unfold flatV at h1
    unfold ResShape at h0
    dsimp only
    by_cases hx : x.1 = true
    · rw [if_pos hx] at h0 h1 ⊢
      obtain ⟨us, rfl, _⟩ := h0
      exact ⟨us, rfl, h1⟩
    · rw [if_neg hx] at h0 h1 ⊢
      obtain ⟨s, hs⟩ : ∃ s, cells.take x.2.length = [s] := by
        have := h1.1
        cases hq : cells.take x.2.length with
        | nil => rw [hq] at this; simp at this
        | cons s r => cases r with
          | nil => exact ⟨s, rfl⟩
          | cons _ _ => rw [hq] at this; simp at this
      refine ⟨s, hs, ?_⟩
      rw [hs] at h1
      exact h1.2 0 _ _ rfl rfl

/-! ### Variables are bound: nothing speaks of them before -/
def SC.lt (n : Nat) : SC → Bool
  | .int _ e => e.lt n
  | .bool e => e.lt n
  | .str e => e.lt n
  | .imm _ _ _ e => e.lt n
  | .sub _ _ l h => l.lt n && h.lt n
  | .ptr _ _ i _ => i.lt n
  | .pel _ _ _ e i _ => e.lt n && i.lt n
  | _ => true
def SV.lt (n : Nat) : SV → Bool
  | .sc s => s.lt n
  | .agg cs => cs.all (SC.lt n)
  | .tup ps => ps.all fun p => p.2.all (SC.lt n)
def Blk.lt (n : Nat) (b : Blk) : Bool := match b.cont with
  | .dead => true
  | .box cs => cs.all (SC.lt n)
  | .row e => e.lt n
def SS.lt (st : SS) : Bool := st.frames.all (fun f => f.all (SV.lt st.nv)) && st.heap.all (Blk.lt st.nv)

theorem blk_len_app {xs : List TV} {b : Blk} (h : b.lt ρ.length = true) : b.len Γ (ρ ++ xs) = b.len Γ ρ := by
  unfold Blk.lt at h
  unfold Blk.len
  cases hc : b.cont <;> simp only [hc] at h ⊢
  rw [E.den_app h]
theorem refTo_app {hp : List Blk} {as : List Value} {b v : Nat} {X Y : Blk → Value → Prop} (r : RefTo hp as b v X) (k : ∀ blk va, hp[b]? = some blk → X blk va → Y blk va) : RefTo hp as b v Y := by
  obtain ⟨blk, va, h1, h2, h3, h4⟩ := r
  exact ⟨blk, va, h1, h2, h3, fun e => k blk va h1 (h4 e)⟩
theorem RepPtr.app {hp : List Blk} {xs : List TV} (hh : ∀ b ∈ hp, b.lt ρ.length = true) {b v : Nat} {i : Int} {c : Nat} {u : Value} (r : RepPtr Γ ρ hp as b v i c u) : RepPtr Γ (ρ ++ xs) hp as b v i c u :=
  refTo_app r fun blk va hb ⟨n, g, h1, h2⟩ => ⟨n, g, by rw [blk_len_app (hh blk (List.mem_of_getElem? hb))]; exact h1, h2⟩
theorem RepC.app {hp : List Blk} {M Mf : Mem} {xs : List TV} (hh : ∀ b ∈ hp, b.lt ρ.length = true) {s : SC} {v : Value} (hs : s.lt ρ.length = true) (r : RepC Γ ρ hp as M Mf s v) : RepC Γ (ρ ++ xs) hp as M Mf s v := by
  cases s with
  | undef => trivial
  | int k e => simp only [RepC, E.den_app (show e.lt ρ.length = true from hs)]; exact r
  | bool e => simp only [RepC, E.den_app (show e.lt ρ.length = true from hs)]; exact r
  | str e => simp only [RepC, E.den_app (show e.lt ρ.length = true from hs)]; exact r
  | nil => exact r
  | imm fr ag cs e => simp only [RepC, E.den_app (show e.lt ρ.length = true from hs)]; exact r
  | own b ver => exact r
  | sub b ver lo hi =>
    simp only [SC.lt, Bool.and_eq_true] at hs
    refine ⟨r.1, refTo_app r.2 fun blk va hb ⟨⟨n, h1, h2⟩, hx⟩ => ⟨⟨n, by rw [blk_len_app (hh blk (List.mem_of_getElem? hb))]; exact h1, ?_⟩, hx⟩⟩
    rw [E.den_app hs.1, E.den_app hs.2]
    exact h2
  | ptr b ver i c =>
    refine ⟨r.1, ?_⟩
    rw [E.den_app (show i.lt ρ.length = true from hs)]
    exact RepPtr.app hh r.2
  | pel fr ag cs e i c =>
    simp only [SC.lt, Bool.and_eq_true] at hs
    simp only [RepC, E.den_app hs.1, E.den_app hs.2]
    exact r
  | fn f caps => obtain ⟨vs, h1, h2⟩ := r; exact ⟨vs, h1, h2.mono fun _ _ hx => ⟨hx.1, RepPtr.app hh hx.2⟩⟩
  | lit u => exact r
theorem RepCs.app {hp : List Blk} {M Mf : Mem} {xs : List TV} (hh : ∀ b ∈ hp, b.lt ρ.length = true) {s : List SC} {v : List Value} (hs : s.all (SC.lt ρ.length) = true) (r : RepCs Γ ρ hp as M Mf s v) : RepCs Γ (ρ ++ xs) hp as M Mf s v :=
  All2.mono_mem r fun x y hx hr => RepC.app hh (List.all_eq_true.1 hs x hx) hr
theorem RepV.app {hp : List Blk} {M Mf : Mem} {xs : List TV} (hh : ∀ b ∈ hp, b.lt ρ.length = true) {s : SV} {v : Value} (hs : s.lt ρ.length = true) (r : RepV Γ ρ hp as M Mf s v) : RepV Γ (ρ ++ xs) hp as M Mf s v := by
  cases s with
  | sc s => exact RepC.app hh hs r
  | agg cs => obtain ⟨vs, h1, h2⟩ := r; exact ⟨vs, h1, h2.app hh hs⟩
  | tup ps =>
    obtain ⟨vs, h1, h2⟩ := r
    refine ⟨vs, h1, All2.mono_mem h2 fun x y hx hr => ?_⟩
    have hxs := List.all_eq_true.1 (show ps.all (fun p => p.2.all (SC.lt ρ.length)) = true from hs) x hx
    unfold RepP at *
    split at hr
    · obtain ⟨us, k1, k2⟩ := hr; rw [if_pos ‹_›]; exact ⟨us, k1, k2.app hh hxs⟩
    · obtain ⟨s, k1, k2⟩ := hr
      rw [if_neg ‹_›]
      rw [k1] at hxs
      exact ⟨s, k1, k2.app hh (by simpa using hxs)⟩
theorem Rel.app (r : Rel Γ gt ρ B G st as vss w) (h : st.lt = true) (xs : List TV) : Rel Γ gt (ρ ++ xs) B G { st with nv := st.nv + xs.length } as vss w := by
  simp only [SS.lt, Bool.and_eq_true, List.all_eq_true] at h
  rw [r.nv] at h
  have hh : ∀ b ∈ st.heap, b.lt ρ.length = true := h.2
  refine ⟨by rw [List.length_append, r.nv], All2.mono_mem r.frames fun f vs hf hr => All2.mono_mem hr fun s v hs hv => RepV.app hh (h.1 f hf s hs) hv, r.alen, fun b blk va h1 h2 => ?_, r.own, r.dist, r.base, r.gs, r.globs⟩
  have hb := r.blks b blk va h1 h2
  have hbl := hh blk (List.mem_of_getElem? h1)
  unfold BlkRel at *
  unfold Blk.lt at hbl
  cases hc : blk.cont with
  | dead => trivial
  | box cs =>
    simp only [hc] at hb hbl ⊢
    obtain ⟨g, cur, k1, k2, k3, k4⟩ := hb
    exact ⟨g, cur, k1, k2, k3, k4.app hh hbl⟩
  | row e =>
    simp only [hc] at hb hbl ⊢
    rw [E.den_app hbl]
    exact hb

/-! ### A call by contract -/
theorem sig_step {s : Sig} (r : Rel Γ gt ρ B G st as vss w) (hlt : st.lt = true) {tv : TV} {v : Value} {w' : World} {G' : Nat → Prop} (hb : Below w.heap.size w w') (hg : ∀ g, G' g → w.heap.size ≤ g ∧ g < w'.heap.size)
    (hres : ResRep w.heap.size w' G' s.res tv v) : ∃ as' G'', Rel Γ gt (ρ ++ [tv]) B G'' (resState st s).1 as' vss w' ∧ RepV Γ (ρ ++ [tv]) (resState st s).1.heap as' (stable w' G'') (fresh w' G'' B) (resState st s).2 v := by
  obtain ⟨vs, hv, hvl, hshape, hflen, hfall, hnd⟩ := hres
  have r1 := (r.after hb hg).app hlt [tv]
  unfold resState
  split
  rename_i cells hp had
  have hnv : st.nv = ρ.length := r.nv
  have htv := flatRes_tv (Γ := Γ) (ρ := ρ ++ [tv]) (n := st.nv) (single := Nat.beq s.res.length 1) (r := tv) (fun j => by
    have hvn : (E.v st.nv).den Γ (ρ ++ [tv]) = tv := by simp [E.den, hnv]
    unfold resE
    split
    · exact hvn
    · simp only [E.den, P1.den] at hvn ⊢; rw [hvn]) s.res 0
  have hall : All2 (fun (x : (CT × Option TypeId) × E) v => ResC w.heap.size w' G' x.1 (x.2.den Γ (ρ ++ [tv])) v) (flatRes (Nat.beq s.res.length 1) st.nv s.res 0) (flatVals s.res vs) := by
    rw [← htv] at hflen hfall
    refine ⟨by simpa using hflen, fun i x u hx hu => ?_⟩
    exact hfall i (x.1, x.2.den Γ (ρ ++ [tv])) u (by rw [List.getElem?_map, hx]; rfl) hu
  obtain ⟨as', k1, k2, k3⟩ := adoptCells_rel (B0 := w.heap.size) (G' := G') (G := fun g => G g ∨ G' g) r.base (fun g h => .inr h) (fun g h1 h2 => by
    rcases h2 with h2 | h2
    · have := (r.gs g h2).2; omega
    · exact h2) r1 had hall.1.symm (fun i x u hx hu => hall.2 i x u hx hu) (by rw [flatRes_types]; exact hnd) (fun b k u g a1 a2 a3 a4 hmem => by
    rw [flatRes_types] at hmem
    have hlt := (r.gs g (r.own b k u g a1 a2 a3 a4)).2
    unfold ownCells at hmem
    obtain ⟨⟨x, y⟩, hxy, hgy⟩ := List.mem_filterMap.1 hmem
    obtain ⟨i, hi, hxi⟩ := List.mem_iff_getElem.1 hxy
    have hzip := List.getElem?_eq_getElem hi
    rw [hxi, List.getElem?_zip_eq_some] at hzip
    have hfl : (flatRes (Nat.beq s.res.length 1) st.nv s.res 0).map (·.1) = resTypes s.res := flatRes_types _ _ _ _
    have hx' := hzip.1
    rw [← hfl, List.getElem?_map] at hx'
    cases hq : (flatRes (Nat.beq s.res.length 1) st.nv s.res 0)[i]? with
    | none => rw [hq] at hx'; cases hx'
    | some z =>
      rw [hq] at hx'
      simp only [Option.map_some, Option.some.injEq] at hx'
      have hrc := hall.2 i z y hq hzip.2
      dsimp only at hrc
      rw [hx'] at hrc
      split at hgy
      · rename_i ag cs t u' heq
        injection heq with e1 e2
        subst e1 e2
        obtain ⟨xs, _, _, q3⟩ := hrc
        have := (hg g (q3 g hgy)).1
        omega
      · cases hgy)
  refine ⟨as', _, k1, ?_⟩
  have hgrp := regroup_rep hvl hshape k3
  dsimp only
  unfold resSV
  have hgl := hgrp.1
  rw [hv]
  have hrl : (regroup s.res cells).length = s.res.length := by rw [hgrp.1, hvl]
  split
  · rename_i sc hq
    rw [hq] at hgrp hrl
    rw [if_pos (by simpa using hrl.symm)]
    cases vs with
    | nil => have := hgrp.1; simp at this
    | cons u us =>
      have := hgrp.2 0 _ _ rfl rfl
      unfold RepP at this
      rw [if_neg (by simp)] at this
      obtain ⟨s', e1, e2⟩ := this
      simp only [List.cons.injEq, and_true] at e1
      rw [e1]
      exact e2
  · rename_i cs hq
    rw [hq] at hgrp hrl
    rw [if_pos (by simpa using hrl.symm)]
    cases vs with
    | nil => have := hgrp.1; simp at this
    | cons u us =>
      have := hgrp.2 0 _ _ rfl rfl
      unfold RepP at this
      rw [if_pos rfl] at this
      exact this
  · rename_i h1 h2
    by_cases hl1 : s.res.length = 1
    · exfalso
      rw [hl1] at hrl
      cases hq : regroup s.res cells with
      | nil => rw [hq] at hrl; simp at hrl
      | cons p ps =>
        rw [hq] at hrl
        have : ps = [] := List.eq_nil_of_length_eq_zero (by simpa using hrl)
        subst this
        obtain ⟨b, l⟩ := p
        cases b with
        | true => exact h2 l hq
        | false =>
          rw [hq] at hgrp
          cases vs with
          | nil => have := hgrp.1; simp at this
          | cons u us =>
            have := hgrp.2 0 _ _ rfl rfl
            unfold RepP at this
            rw [if_neg (by simp)] at this
            obtain ⟨s', e1, _⟩ := this
            dsimp only at e1
            exact h1 s' (by rw [hq, e1])
    · rw [if_neg hl1]
      exact ⟨vs.toArray, rfl, hgrp⟩
end
end Go.Proofs.YtccpepheooleoaaDoor
