/- Blocks of cells; the iterator of scriptverify.successors, walked by hand. -/
import Derived.Test.YtlhagkbhojmjpaaDoorSrn
import Derived.RangeFuncNested
import Derived.RangeFuncBound
import Derived.RangeFuncCalls
import Derived.RangeFuncLeaves
import Derived.Shelf.Abstract
import Derived.Shelf.RegionOpen
import Derived.WalkKit
import Derived.OwnWalkIn
import Derived.TacticsInMore
import Derived.LoopNIn
import Derived.LoopIn
import Derived.Maps.AppendAt
namespace Go.Proofs.YtlhagkbhojmjpaaDoor
set_option linter.unusedSimpArgs false
set_option linter.unusedVariables false
set_option linter.unusedSectionVars false
set_option linter.unnecessarySimpa false
section
open Go.RowKit Go.Shelf
attribute [local go_sem] Oper.semAt_some

def Kp2 (n₀ k0 : Nat) (A B : World) : Prop := Below n₀ A B ∧ ∀ k, k0 ≤ k → k < k0 + 2 → B.heap[k]? = A.heap[k]?
theorem Kp2.refl (n₀ k0 : Nat) (A : World) : Kp2 n₀ k0 A A := ⟨Below.refl _ _, fun _ _ _ => rfl⟩
theorem Kp2.trans {n₀ k0 : Nat} {A B C : World} (h : Kp2 n₀ k0 A B) (k : Kp2 n₀ k0 B C) : Kp2 n₀ k0 A C := ⟨h.1.trans k.1, fun i h1 h2 => (k.2 i h1 h2).trans (h.2 i h1 h2)⟩
theorem Kp2.putObj {n₀ k0 : Nat} {w : World} (h0 : n₀ ≤ w.heap.size) (h3 : k0 + 2 ≤ w.heap.size) (W : World) (l : Nat) (o o' : Obj) (hl : w.heap.size ≤ l) (h : W.heap[l]? = some o) (hc : o.isCells = false) (hw : o.isWalk = false) : Kp2 n₀ k0 W (W.putObj l o') :=
  ⟨belowK_b h0 W l o o' hl h hc hw, fun k h1 h2 => World.putObj_heap_other (by omega)⟩
theorem Kp2.below {n₀ k0 N : Nat} {A B : World} (h : Below N A B) (h0 : n₀ ≤ N) (h3 : k0 + 2 ≤ N) : Kp2 n₀ k0 A B := ⟨h.mono h0, fun k h1 h2 => h.block k (by omega)⟩
theorem Kp2.cell {n₀ k0 : Nat} {A B : World} (h : Kp2 n₀ k0 A B) {p : Addr} (h1 : k0 ≤ p.block) (h2 : p.block < k0 + 2) : B.cell? p = A.cell? p := World.cell?_of_block (h.2 _ h1 h2)
theorem grown_of_below {A B : World} (h : Below A.heap.size A B) : A.grownBy B none := ⟨h.os, h.tape, h.output, h.size, fun k hk _ => h.block k hk⟩
def HasC (W : World) (B : Nat) (cs : Array Value) (t : TypeId) : Prop := W.heap[B]? = some (.cells cs t (0, 0))
theorem HasC.lt {W : World} {B : Nat} {cs : Array Value} {t : TypeId} (h : HasC W B cs t) : B < W.heap.size := (Array.getElem?_eq_some_iff.1 h).1
theorem HasC.cell {W : World} {B : Nat} {cs : Array Value} {t : TypeId} (h : HasC W B cs t) (i : Nat) {v : Value} (hv : cs[i]? = some v) : W.cell? ⟨B, i, none⟩ = some v := by
  simp [World.cell?, show W.heap[B]? = _ from h, hv]
theorem HasC.frozen {W : World} {B : Nat} {cs : Array Value} {t : TypeId} (h : HasC W B cs t) (i : Nat) : W.frozen? ⟨B, i, none⟩ = false := by
  simp [World.frozen?, show W.heap[B]? = _ from h]
theorem HasC.new (W : World) (cs : Array Value) (t : TypeId) : HasC (W.alloc (.cells cs t)) W.heap.size cs t := World.alloc_heap_new W _
theorem HasC.kept {W W' : World} {row : Option Nat} {B : Nat} {cs : Array Value} {t : TypeId} (h : HasC W B cs t) (hg : W.grownBy W' row) (hne : some B ≠ row) : HasC W' B cs t := (hg.block B h.lt hne).trans h
theorem HasC.alloc {W : World} {B : Nat} {cs : Array Value} {t : TypeId} (h : HasC W B cs t) (o : Obj) : HasC (W.alloc o) B cs t := h.kept (World.grownBy_alloc W o none) (by simp)
theorem HasC.below {W W' : World} {N B : Nat} {cs : Array Value} {t : TypeId} (h : HasC W B cs t) (hb : Below N W W') (hN : B < N) : HasC W' B cs t := (hb.block B hN).trans h
theorem HasC.own {β : Type} (B : Nat) (t : TypeId) (f : β → Array Value) : Own (fun s W => HasC W B (f s) t) := fun s X Y row hs hg hrow =>
  HasC.kept hs hg (fun e' => by obtain ⟨o, ho, hc⟩ := hrow B e'.symm; rw [show X.heap[B]? = _ from hs] at ho; cases ho; cases hc)
theorem HasC.other {W : World} {B B' : Nat} {cs : Array Value} {t : TypeId} (h : HasC W B cs t) (hne : B ≠ B') (j : Nat) (u : Value) : HasC (W.setCell ⟨B', j, none⟩ u) B cs t := (Below.heap_setCell W ⟨B', j, none⟩ u B hne).trans h
theorem HasC.set {W : World} {B : Nat} {cs : Array Value} {t : TypeId} (h : HasC W B cs t) (j : Nat) (u : Value) : HasC (W.setCell ⟨B, j, none⟩ u) B (cs.setIfInBounds j u) t := by
  obtain ⟨hlt, hk⟩ := Array.getElem?_eq_some_iff.1 h
  show (W.heap.modify B _)[B]? = _
  rw [Array.getElem?_eq_getElem (by rw [Array.size_modify]; exact hlt), Array.getElem_modify_self, hk]
  rfl
theorem HasC.set' {W : World} {B : Nat} {cs cs' : Array Value} {t : TypeId} (h : HasC W B cs t) (j : Nat) (u : Value) (e : cs.setIfInBounds j u = cs') : HasC (W.setCell ⟨B, j, none⟩ u) B cs' t := e ▸ h.set j u
theorem qiw {W : World} {D B j : Nat} {o : Obj} (h : W.heap[D]? = some o) (hne : D ≠ B) (u : Value) : (W.setCell ⟨B, j, none⟩ u).heap[D]? = some o := (Below.heap_setCell W ⟨B, j, none⟩ u D hne).trans h

theorem succ_fn (W : World) (op arg i : Int) : Calls Tryd.prog 28 #[.agg #[.int .i64 op, .int .i64 arg], .int .i64 i] W fun e w' =>
    e = .returned (.func (.func 58) #[] #[.pointer (some ⟨W.heap.size, 0, none⟩), .pointer (some ⟨W.heap.size + 1, 0, none⟩)]) ∧ w' = (W.alloc (.cells #[.int .i64 op, .int .i64 arg] 88)).alloc (.cells #[.int .i64 i] 3) := by
  refine (callsIn_wide (n := 8)).1 ?_
  refine callsIn_of_wp Tryd.func28 rfl trivial ?_ rfl
  simp only [Tryd.ntmps28, List.size_toArray, List.length_cons, List.length_nil, Nat.reduceAdd, Nat.reduceSub, Array.replicate_succ, Array.replicate_zero, List.push_toArray, List.append_toArray, List.nil_append, List.cons_append]
  gi_wp2
  go_ret
  exact ⟨rfl, rfl⟩
def succL (op arg : Int) (i : Int) : List Int := (if op = 0 ∨ op = 17 then [] else [i + 1]) ++ (if op = 17 ∨ op = 18 then [arg] else [])
set_option maxRecDepth 100000 in
set_option maxHeartbeats 4000000 in
theorem succ1_in (n : Nat) (hn : 1 ≤ n) (l k0 n₀ : Nat) (op arg : Int) (i : Int) (hi0 : -1000 ≤ i) (hi9 : i ≤ 1000000) {α : Type} (f : α → Int) (hf1 : op ≠ 0 → op ≠ 17 → ∃ a, f a = i + 1) (hf2 : op = 17 ∨ op = 18 → ∃ a, f a = arg) (J Jx : List α → World → Prop) (W : World) (h0n : n₀ ≤ W.heap.size) (h03 : k0 + 2 ≤ W.heap.size)
    (hY : ∀ pre x W1, J pre W1 → pre.length < 2 → YieldAt Fence.wide (n - 1) Tryd.prog l #[.int .i64 (f x)] W1 fun e W' =>
      (e = .returned (.bool true) ∧ J (pre ++ [x]) W' ∧ Kp2 n₀ k0 W1 W') ∨ (e = .returned (.bool false) ∧ Jx (pre ++ [x]) W'))
    (hx0 : W.cell? ⟨k0, 0, none⟩ = some (.int .i64 op)) (hx1 : W.cell? ⟨k0, 1, none⟩ = some (.int .i64 arg)) (hz : W.cell? ⟨k0 + 1, 0, none⟩ = some (.int .i64 i)) (h0 : J [] W) :
    CallsIn Fence.wide n Tryd.prog 58 #[.func (.yield l) #[] #[], .pointer (some ⟨k0, 0, none⟩), .pointer (some ⟨k0 + 1, 0, none⟩)] W fun e W' => (∃ v, e = .returned v) ∧
      ((∃ ys, ys.map f = succL op arg i ∧ J ys W') ∨ (∃ pre, (∃ rest, succL op arg i = pre.map f ++ rest) ∧ Jx pre W')) := by
  refine callsIn_of_wp Tryd.func58 rfl trivial ?_ rfl
  simp only [Tryd.ntmps58, List.size_toArray, List.length_cons, List.length_nil, Nat.reduceAdd, Nat.reduceSub, Array.replicate_succ, Array.replicate_zero, List.push_toArray, List.append_toArray, List.nil_append, List.cons_append]
  by_cases o0 : op = 0
  · subst o0
    gi_wp2_with fail
    refine ⟨fun _ h => (by cases h), ?_⟩
    gi_wp2
    go_end0
    exact ⟨⟨_, rfl⟩, .inl ⟨[], by simp [succL], h0⟩⟩
  by_cases o17 : op = 17
  · subst o17
    obtain ⟨a2, ha2⟩ := hf2 (.inl rfl)
    have hY2 := hY [] a2 W h0 (by simp)
    rw [ha2] at hY2
    obtain ⟨fn, tmps, assign, body, hy, hR⟩ := hY2
    gi_wp2_with fail
    refine ⟨fun _ h => (by cases h), ?_⟩
    gi_wp2
    refine hR.mono ?_
    rintro e W3 (⟨rfl, hJ3, hk3⟩ | ⟨rfl, hJx3⟩)
    · gi_wp2
      go_end0
      exact ⟨⟨_, rfl⟩, .inl ⟨_, by rw [List.nil_append, List.map_cons, List.map_nil, ha2]; rfl, hJ3⟩⟩
    · gi_wp2
      go_end0
      exact ⟨⟨_, rfl⟩, .inr ⟨_, ⟨[], by rw [List.nil_append, List.map_cons, List.map_nil, ha2]; rfl⟩, hJx3⟩⟩
  have hb0 : (op != 0) = true := by simp [o0]
  have hb1 : (op != 17) = true := by simp [o17]
  obtain ⟨a1, ha1⟩ := hf1 o0 o17
  have hY1 := hY [] a1 W h0 (by simp)
  rw [ha1] at hY1
  obtain ⟨fn, tmps, assign, body, hy, hR⟩ := hY1
  by_cases o18 : op = 18
  · subst o18
    obtain ⟨a2, ha2⟩ := hf2 (.inr rfl)
    gi_wp2
    refine hR.mono ?_
    rintro e W3 (⟨rfl, hJ3, hk3⟩ | ⟨rfl, hJx3⟩)
    · have x3 := (hk3.cell (p := ⟨k0, 0, none⟩) (by simp) (by simp)).trans hx0
      have x4 := (hk3.cell (p := ⟨k0, 1, none⟩) (by simp) (by simp)).trans hx1
      have hY2 := hY ([] ++ [a1]) a2 W3 hJ3 (by simp)
      rw [ha2] at hY2
      obtain ⟨fn2, tmps2, assign2, body2, hy2, hR2⟩ := hY2
      gi_wp2
      refine hR2.mono ?_
      rintro e W4 (⟨rfl, hJ4, hk4⟩ | ⟨rfl, hJx4⟩)
      · gi_wp2
        go_end0
        exact ⟨⟨_, rfl⟩, .inl ⟨_, by simp only [List.nil_append, List.cons_append, List.map_cons, List.map_nil, ha1, ha2]; rfl, hJ4⟩⟩
      · gi_wp2
        go_end0
        exact ⟨⟨_, rfl⟩, .inr ⟨_, ⟨[], by simp only [List.nil_append, List.cons_append, List.map_cons, List.map_nil, ha1, ha2]; rfl⟩, hJx4⟩⟩
    · gi_wp2
      refine bodyPost_ret (results_none rfl _ _ _) rfl ?_
      exact ⟨⟨_, rfl⟩, .inr ⟨_, ⟨[arg], by simp only [List.nil_append, List.cons_append, List.map_cons, List.map_nil, ha1]; rfl⟩, hJx3⟩⟩
  · gi_wp2
    refine hR.mono ?_
    rintro e W3 (⟨rfl, hJ3, hk3⟩ | ⟨rfl, hJx3⟩)
    · have x3 := (hk3.cell (p := ⟨k0, 0, none⟩) (by simp) (by simp)).trans hx0
      have hb2 : (op == 17) = false := by simp [o17]
      have hb3 : (op == 18) = false := by simp [o18]
      gi_wp2
      go_end0
      have es : succL op arg i = [i + 1] := by unfold succL; rw [if_neg (by omega), if_neg (by omega)]; rfl
      exact ⟨⟨_, rfl⟩, .inl ⟨_, by rw [es, List.nil_append, List.map_cons, List.map_nil, ha1], hJ3⟩⟩
    · gi_wp2
      refine bodyPost_ret (results_none rfl _ _ _) rfl ?_
      have es : succL op arg i = [i + 1] := by unfold succL; rw [if_neg (by omega), if_neg (by omega)]; rfl
      exact ⟨⟨_, rfl⟩, .inr ⟨_, ⟨[], by rw [es, List.nil_append, List.map_cons, List.map_nil, ha1]; rfl⟩, hJx3⟩⟩
end
end Go.Proofs.YtlhagkbhojmjpaaDoor
