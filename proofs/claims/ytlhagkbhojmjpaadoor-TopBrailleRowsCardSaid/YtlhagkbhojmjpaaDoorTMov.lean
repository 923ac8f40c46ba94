/- Written by this repo's own program out of its texts. -/
import Derived.Test.YtlhagkbhojmjpaaDoorTDis
import Derived.Test.YtlhagkbhojmjpaaDoorTWnd
import Derived.RangeFuncNested
import Derived.RangeFuncBound
import Derived.RangeFuncCalls
import Derived.RangeFuncLeaves
import Derived.Shelf.Abstract
import Derived.Shelf.RegionOpen
import Derived.WalkKit
import Derived.OwnWalkIn
import Derived.TacticsInMore
import Derived.LoopNIn
import Derived.LoopIn
import Derived.Maps.AppendAt
namespace Go.Proofs.YtlhagkbhojmjpaaDoor
set_option linter.unusedSimpArgs false
set_option linter.unusedVariables false
set_option linter.unusedSectionVars false
set_option linter.unnecessarySimpa false
section
open Go.RowKit Go.Shelf
attribute [local go_sem] Oper.semAt_some
def Kp3 (n₀ k0 : Nat) (A B : World) : Prop := Below n₀ A B ∧ ∀ k, k0 ≤ k → k < k0 + 3 → B.heap[k]? = A.heap[k]?
theorem Kp3.refl (n₀ k0 : Nat) (A : World) : Kp3 n₀ k0 A A := ⟨Below.refl _ _, fun _ _ _ => rfl⟩
theorem Kp3.trans {n₀ k0 : Nat} {A B C : World} (h : Kp3 n₀ k0 A B) (k : Kp3 n₀ k0 B C) : Kp3 n₀ k0 A C := ⟨h.1.trans k.1, fun i h1 h2 => (k.2 i h1 h2).trans (h.2 i h1 h2)⟩
theorem Kp3.putObj {n₀ k0 : Nat} {w : World} (h0 : n₀ ≤ w.heap.size) (h3 : k0 + 3 ≤ w.heap.size) (W : World) (l : Nat) (o o' : Obj) (hl : w.heap.size ≤ l) (h : W.heap[l]? = some o) (hc : o.isCells = false) (hw : o.isWalk = false) : Kp3 n₀ k0 W (W.putObj l o') :=
  ⟨belowK_b h0 W l o o' hl h hc hw, fun k h1 h2 => World.putObj_heap_other (by omega)⟩
theorem Kp3.below {n₀ k0 N : Nat} {A B : World} (h : Below N A B) (h0 : n₀ ≤ N) (h3 : k0 + 3 ≤ N) : Kp3 n₀ k0 A B := ⟨h.mono h0, fun k h1 h2 => h.block k (by omega)⟩
theorem Kp3.cell {n₀ k0 : Nat} {A B : World} (h : Kp3 n₀ k0 A B) {p : Addr} (h1 : k0 ≤ p.block) (h2 : p.block < k0 + 3) : B.cell? p = A.cell? p := World.cell?_of_block (h.2 _ h1 h2)
theorem grown_of_below {A B : World} (h : Below A.heap.size A B) : A.grownBy B none := ⟨h.os, h.tape, h.output, h.size, fun k hk _ => h.block k hk⟩
theorem snoc_line (sz i j : Nat) : (List.range (j + 1)).map (fun j => (i, j * sz)) = (List.range j).map (fun j => (i, j * sz)) ++ [(i, j * sz)] := by
  rw [List.range_succ, List.map_append, List.map_cons, List.map_nil]
theorem wins_snoc (sz : Nat) {ns : List Nat} {i n : Nat} (h : ns[i]? = some n) : winsW sz 0 (ns.take (i + 1)) = winsW sz 0 (ns.take i) ++ (List.range (cntW sz n)).map (fun j => (i, j * sz)) := by
  have hi : i < ns.length := (List.getElem?_eq_some_iff.1 h).1
  have e : ns.take (i + 1) = ns.take i ++ [n] := by rw [List.take_add_one, h]; rfl
  rw [e, qif, List.length_take, Nat.min_eq_left (by omega), Nat.zero_add, winsW, winsW, List.append_nil]
  rfl
theorem run_cellsField (x y : Value) (w : World) : (Instr.field 74 (.agg #[x, y]) 0).run Tryd.prog w = .ok x w := by
  simp only [Instr.field, asAgg, part, Sem.run_bind, Sem.run_pure, Tryd.runUnderlying74, Result.andThen_ok, Tryd.isAgg71, List.getElem?_toArray, List.getElem?_cons_zero, Bool.false_eq_true, if_false]
set_option maxRecDepth 100000 in
set_option maxHeartbeats 4000000 in
theorem win1_in (n : Nat) (hn : 1 ≤ n) (l k0 n₀ b off m cap : Nat) (sz : Nat) (s0 s1 s2 s3 s4 s5 : Value) (ns : List Nat) (rv : Nat → Value) (hm : ns.length = m) (hm9 : m ≤ 100000) (hsz : 1 ≤ sz) (hsz9 : sz ≤ 80) (hns : ∀ k ∈ ns, k ≤ 1000000) (hb : b < n₀)
    (J Jx : List (Nat × Nat) → World → Prop) (W : World) (hJ : AbidesFrom W.heap.size J) (h0n : n₀ ≤ W.heap.size) (h03 : k0 + 3 ≤ W.heap.size)
    (hOf : ∀ i (hi : i < m) (W' : World), Below n₀ W W' → Calls Tryd.prog 19 #[rv i, .agg #[s0, s1, s2, s3, s4, s5]] W' fun e w' => ∃ a1 cap1 u, e = .returned (.agg #[.slice a1 (ns.getD i 0) cap1, u]) ∧ Below W'.heap.size W' w')
    (hY : ∀ pre x W1, J pre W1 → pre.length < offW sz ns → YieldAt Fence.wide (n - 1) Tryd.prog l #[.agg #[.int .i64 (x.1 : Nat), .int .i64 (x.2 : Nat)]] W1 fun e W' =>
      (e = .returned (.bool true) ∧ J (pre ++ [x]) W' ∧ Kp3 n₀ k0 W1 W') ∨ (e = .returned (.bool false) ∧ Jx (pre ++ [x]) W'))
    (hv : W.cell? ⟨k0 + 1, 2, none⟩ = some (.slice (some ⟨b, off, none⟩) m cap)) (hz : W.cell? ⟨k0, 0, none⟩ = some (.int .i64 (sz : Int)))
    (hs0 : W.cell? ⟨k0 + 2, 0, none⟩ = some s0) (hs1 : W.cell? ⟨k0 + 2, 1, none⟩ = some s1) (hs2 : W.cell? ⟨k0 + 2, 2, none⟩ = some s2) (hs3 : W.cell? ⟨k0 + 2, 3, none⟩ = some s3) (hs4 : W.cell? ⟨k0 + 2, 4, none⟩ = some s4) (hs5 : W.cell? ⟨k0 + 2, 5, none⟩ = some s5)
    (hc : ∀ i, i < m → W.cell? ⟨b, off + i, none⟩ = some (rv i)) (h0 : J [] W) :
    CallsIn Fence.wide n Tryd.prog 122 #[.func (.yield l) #[] #[], .pointer (some ⟨k0 + 1, 0, none⟩), .pointer (some ⟨k0 + 2, 0, none⟩), .pointer (some ⟨k0, 0, none⟩)] W fun e W' => (∃ v, e = .returned v) ∧
      ((∃ ys, ys = winsW sz 0 ns ∧ J ys W') ∨ (∃ pre, True ∧ Jx pre W')) := by
  refine callsIn_of_wp Tryd.func122 rfl trivial ?_ rfl
  simp only [Tryd.ntmps122, List.size_toArray, List.length_cons, List.length_nil, Nat.reduceAdd, Nat.reduceSub, Array.replicate_succ, Array.replicate_zero, List.push_toArray, List.append_toArray, List.nil_append, List.cons_append]
  gi_wp2
  gi_loopw [12] (fun p wr => ∃ i : Nat, i ≤ m ∧ p = .int .i64 i ∧ J (winsW sz 0 (ns.take i)) wr ∧ Kp3 n₀ k0 W wr) (fun p _ => m - (intOf p).toNat)
  case atStart => exact ⟨0, Nat.zero_le _, rfl, h0, Kp3.refl _ _ _⟩
  case round =>
    obtain ⟨i, hi, rfl, hJs, hnx⟩ := hrel
    by_cases hlt : i < m
    · obtain ⟨nn, hnn⟩ : ∃ nn, ns[i]? = some nn := ⟨_, List.getElem?_eq_getElem (by omega)⟩
      have hgD : ns.getD i 0 = nn := by rw [List.getD_eq_getElem?_getD, hnn]; rfl
      have hnb : nn ≤ 1000000 := hns nn (List.mem_of_getElem? hnn)
      have hB := hnx.1
      have c0 : wr.cell? ⟨k0 + 2, 0, none⟩ = some s0 := (hnx.cell (by simp) (by simp)).trans hs0
      have c1 : wr.cell? ⟨k0 + 2, 1, none⟩ = some s1 := (hnx.cell (by simp) (by simp)).trans hs1
      have c2 : wr.cell? ⟨k0 + 2, 2, none⟩ = some s2 := (hnx.cell (by simp) (by simp)).trans hs2
      have c3 : wr.cell? ⟨k0 + 2, 3, none⟩ = some s3 := (hnx.cell (by simp) (by simp)).trans hs3
      have c4 : wr.cell? ⟨k0 + 2, 4, none⟩ = some s4 := (hnx.cell (by simp) (by simp)).trans hs4
      have c5 : wr.cell? ⟨k0 + 2, 5, none⟩ = some s5 := (hnx.cell (by simp) (by simp)).trans hs5
      have cr : wr.cell? ⟨b, off + i, none⟩ = some (rv i) := (hB.cell (p := ⟨b, off + i, none⟩) hb).trans (hc i hlt)
      have hOf' := hOf i hlt wr hB
      rw [hgD] at hOf'
      have hfld := run_cellsField
      gi_wp2_with (refine ⟨trivial, ?_⟩; gi_at_call 19; refine (callsIn_wide.2 hOf').mono ?_; rintro e w' ⟨a1, cap1, u, rfl, hbW⟩)
      have hnw : Kp3 n₀ k0 wr w' := Kp3.below hbW (Nat.le_trans h0n hB.size) (Nat.le_trans h03 hB.size)
      have hJw : J (winsW sz 0 (ns.take i)) w' := hJ _ _ _ none hJs (grown_of_below hbW) (fun r e => by cases e)
      have hlen0 : (winsW sz 0 (ns.take i)).length + cntW sz nn ≤ offW sz ns := by
        rw [qii, ← qh6 sz hnn]; exact qh8 _ _ _
      have hcnt : cntW sz nn * sz ≤ nn + 80 := by
        unfold cntW
        have := Nat.div_mul_le_self (nn - 1) sz
        rw [Nat.add_mul]; omega
      obtain ⟨wo, hwo⟩ : ∃ wo : World, wo = w' := ⟨_, rfl⟩
      rw [← hwo] at hJw hnw ⊢
      gi_loopw [8] (fun v wr => ∃ j : Nat, j ≤ cntW sz nn ∧ v = .int .i64 ((j * sz : Nat) : Int) ∧ J (winsW sz 0 (ns.take i) ++ (List.range j).map (fun j => (i, j * sz))) wr ∧ Kp3 n₀ k0 W wr) (fun v _ => nn + 1000 - (intOf v).toNat)
      case atStart => exact ⟨0, Nat.zero_le _, by rw [Nat.zero_mul]; rfl, by simpa using hJw, hnx.trans hnw⟩
      case round =>
        obtain ⟨j, hj, rfl, hJj, hnj⟩ := hrel
        have hz' : wr.cell? ⟨k0, 0, none⟩ = some (.int .i64 (sz : Int)) := (hnj.cell (p := ⟨k0, 0, none⟩) (by simp) (by simp)).trans hz
        have hjq : j * sz ≤ cntW sz nn * sz := Nat.mul_le_mul_right _ hj
        have hj1 : (j + 1) * sz = j * sz + sz := by rw [Nat.add_mul, Nat.one_mul]
        by_cases hgo : j < cntW sz nn
        · obtain ⟨fn, tmps, assign, body, hy, hR⟩ := hY _ (i, j * sz) wr hJj (by
            rw [List.length_append, List.length_map, List.length_range]; omega)
          dsimp only at hy
          have hq : j * sz = 0 ∨ j * sz < nn := by
            rcases Nat.eq_zero_or_pos j with rfl | hp
            · left; omega
            · right
              unfold cntW at hgo
              have h1 := (Nat.le_div_iff_mul_le (show 0 < sz by omega)).1 (show j ≤ (nn - 1) / sz by omega)
              have h2 : 1 * 1 ≤ j * sz := Nat.mul_le_mul hp hsz
              omega
          have rel : ∀ W3, J (winsW sz 0 (ns.take i) ++ (List.range j).map (fun j => (i, j * sz)) ++ [(i, j * sz)]) W3 → J (winsW sz 0 (ns.take i) ++ (List.range (j + 1)).map (fun j => (i, j * sz))) W3 := fun W3 h => by
            rw [snoc_line, ← List.append_assoc]; exact h
          generalize j * sz = q at *
          have go : ∀ W3, J (winsW sz 0 (ns.take i) ++ (List.range j).map (fun j => (i, j * sz)) ++ [(i, q)]) W3 → Kp3 n₀ k0 wr W3 → W3.cell? ⟨k0, 0, none⟩ = some (.int .i64 (sz : Int)) := fun W3 _ h => (h.cell (p := ⟨k0, 0, none⟩) (by simp) (by simp)).trans hz'
          by_cases hq0 : q = 0
          · subst hq0
            rw [show ((0 : Nat) : Int) = 0 from rfl] at hy
            gi_wp2
            refine hR.mono ?_
            rintro e W3 (⟨rfl, hJ3, hk3⟩ | ⟨rfl, hJx3⟩)
            · have hz3 := go W3 hJ3 hk3
              gi_wp2
              go_roundw
              case rel => exact ⟨j + 1, by omega, by rw [hj1]; go_num, rel W3 hJ3, hnj.trans hk3⟩
              case measure => simp [intOf]; omega
            · gi_wp2
              refine bodyPost_ret (results_none rfl _ _ _) rfl ?_
              exact ⟨⟨_, rfl⟩, .inr ⟨_, trivial, hJx3⟩⟩
          · have hq' : q < nn := hq.resolve_left hq0
            gi_wp2
            refine hR.mono ?_
            rintro e W3 (⟨rfl, hJ3, hk3⟩ | ⟨rfl, hJx3⟩)
            · have hz3 := go W3 hJ3 hk3
              gi_wp2
              go_roundw
              case rel => exact ⟨j + 1, by omega, by rw [hj1]; go_num, rel W3 hJ3, hnj.trans hk3⟩
              case measure => simp [intOf]; omega
            · gi_wp2
              refine bodyPost_ret (results_none rfl _ _ _) rfl ?_
              exact ⟨⟨_, rfl⟩, .inr ⟨_, trivial, hJx3⟩⟩
        · obtain rfl : j = cntW sz nn := by omega
          have hq1 : ¬ cntW sz nn * sz = 0 := by
            have := Nat.mul_le_mul (qih sz nn) hsz
            omega
          have hq2 : ¬ cntW sz nn * sz < nn := by
            unfold cntW
            have h1 := Nat.div_add_mod (nn - 1) sz
            have h2 := Nat.mod_lt (nn - 1) (show sz > 0 by omega)
            rw [Nat.add_mul, Nat.one_mul, Nat.mul_comm]
            omega
          have hwin : J (winsW sz 0 (ns.take (i + 1))) wr := by rw [wins_snoc sz hnn]; exact hJj
          generalize cntW sz nn * sz = q at *
          gi_wp2
          go_roundw
          case rel => exact ⟨i + 1, by omega, by go_num, hwin, hnj⟩
          case measure => simp [intOf]; omega
    · obtain rfl : i = m := by omega
      have ht : ns.take i = ns := List.take_of_length_le (by omega)
      rw [ht] at hJs
      gi_wp2
      go_end0
      exact ⟨⟨_, rfl⟩, .inl ⟨_, rfl, hJs⟩⟩
theorem windows_in (n : Nat) (sz : Int) (v0 v1 v2 v3 v4 v5 s0 s1 s2 s3 s4 s5 : Value) (w : World) :
    CallsIn Fence.wide n Tryd.prog 91 #[.int .i64 sz, .agg #[v0, v1, v2, v3, v4, v5], .agg #[s0, s1, s2, s3, s4, s5]] w fun e w' =>
      e = .returned (.func (.func 122) #[] #[.pointer (some ⟨w.heap.size + 1, 0, none⟩), .pointer (some ⟨w.heap.size + 2, 0, none⟩), .pointer (some ⟨w.heap.size, 0, none⟩)]) ∧
      w' = ((w.alloc (.cells #[.int .i64 sz] 3)).alloc (.cells #[v0, v1, v2, v3, v4, v5] 61)).alloc (.cells #[s0, s1, s2, s3, s4, s5] 66) := by
  refine callsIn_of_wp Tryd.func91 rfl trivial ?_ rfl
  simp only [Tryd.ntmps91, List.size_toArray, List.length_cons, List.length_nil, Nat.reduceAdd, Nat.reduceSub, Array.replicate_succ, Array.replicate_zero, List.push_toArray, List.append_toArray, List.nil_append, List.cons_append]
  gi_wp2
  go_ret
  exact ⟨rfl, rfl⟩
def HasC (W : World) (B : Nat) (cs : Array Value) (t : TypeId) : Prop := W.heap[B]? = some (.cells cs t (0, 0))
theorem HasC.lt {W : World} {B : Nat} {cs : Array Value} {t : TypeId} (h : HasC W B cs t) : B < W.heap.size := (Array.getElem?_eq_some_iff.1 h).1
theorem HasC.cell {W : World} {B : Nat} {cs : Array Value} {t : TypeId} (h : HasC W B cs t) (i : Nat) {v : Value} (hv : cs[i]? = some v) : W.cell? ⟨B, i, none⟩ = some v := by
  simp [World.cell?, show W.heap[B]? = _ from h, hv]
theorem HasC.frozen {W : World} {B : Nat} {cs : Array Value} {t : TypeId} (h : HasC W B cs t) (i : Nat) : W.frozen? ⟨B, i, none⟩ = false := by
  simp [World.frozen?, show W.heap[B]? = _ from h]
theorem HasC.new (W : World) (cs : Array Value) (t : TypeId) : HasC (W.alloc (.cells cs t)) W.heap.size cs t := World.alloc_heap_new W _
theorem HasC.kept {W W' : World} {row : Option Nat} {B : Nat} {cs : Array Value} {t : TypeId} (h : HasC W B cs t) (hg : W.grownBy W' row) (hne : some B ≠ row) : HasC W' B cs t := (hg.block B h.lt hne).trans h
theorem HasC.alloc {W : World} {B : Nat} {cs : Array Value} {t : TypeId} (h : HasC W B cs t) (o : Obj) : HasC (W.alloc o) B cs t := h.kept (World.grownBy_alloc W o none) (by simp)
theorem HasC.below {W W' : World} {N B : Nat} {cs : Array Value} {t : TypeId} (h : HasC W B cs t) (hb : Below N W W') (hN : B < N) : HasC W' B cs t := (hb.block B hN).trans h
theorem HasC.own {β : Type} (B : Nat) (t : TypeId) (f : β → Array Value) : Own (fun s W => HasC W B (f s) t) := fun s X Y row hs hg hrow =>
  HasC.kept hs hg (fun e' => by obtain ⟨o, ho, hc⟩ := hrow B e'.symm; rw [show X.heap[B]? = _ from hs] at ho; cases ho; cases hc)
theorem HasC.other {W : World} {B B' : Nat} {cs : Array Value} {t : TypeId} (h : HasC W B cs t) (hne : B ≠ B') (j : Nat) (u : Value) : HasC (W.setCell ⟨B', j, none⟩ u) B cs t := (Below.heap_setCell W ⟨B', j, none⟩ u B hne).trans h
theorem HasC.set {W : World} {B : Nat} {cs : Array Value} {t : TypeId} (h : HasC W B cs t) (j : Nat) (u : Value) : HasC (W.setCell ⟨B, j, none⟩ u) B (cs.setIfInBounds j u) t := by
  obtain ⟨hlt, hk⟩ := Array.getElem?_eq_some_iff.1 h
  show (W.heap.modify B _)[B]? = _
  rw [Array.getElem?_eq_getElem (by rw [Array.size_modify]; exact hlt), Array.getElem_modify_self, hk]
  rfl
theorem HasC.set' {W : World} {B : Nat} {cs cs' : Array Value} {t : TypeId} (h : HasC W B cs t) (j : Nat) (u : Value) (e : cs.setIfInBounds j u = cs') : HasC (W.setCell ⟨B, j, none⟩ u) B cs' t := e ▸ h.set j u
theorem qh7 {W : World} {D B j : Nat} {o : Obj} (h : W.heap[D]? = some o) (hne : D ≠ B) (u : Value) : (W.setCell ⟨B, j, none⟩ u).heap[D]? = some o := (Below.heap_setCell W ⟨B, j, none⟩ u D hne).trans h
theorem six_blocks (w : World) (a0 a1 a2 a3 a4 a5 : Array Value) (t0 t1 t2 t3 t4 t5 : TypeId) : ∃ W0, (((((w.alloc (.cells a0 t0)).alloc (.cells a1 t1)).alloc (.cells a2 t2)).alloc (.cells a3 t3)).alloc (.cells a4 t4)).alloc (.cells a5 t5) = W0 ∧
    HasC W0 w.heap.size a0 t0 ∧ HasC W0 (w.heap.size + 1) a1 t1 ∧ HasC W0 (w.heap.size + 1 + 1) a2 t2 ∧ HasC W0 (w.heap.size + 1 + 1 + 1) a3 t3 ∧ HasC W0 (w.heap.size + 1 + 1 + 1 + 1) a4 t4 ∧ HasC W0 (w.heap.size + 1 + 1 + 1 + 1 + 1) a5 t5 ∧
    Below w.heap.size w W0 ∧ W0.heap.size = w.heap.size + 6 := by
  have h0 := HasC.new w a0 t0
  have h1 := HasC.new (w.alloc (.cells a0 t0)) a1 t1
  have h2 := HasC.new ((w.alloc (.cells a0 t0)).alloc (.cells a1 t1)) a2 t2
  have h3 := HasC.new (((w.alloc (.cells a0 t0)).alloc (.cells a1 t1)).alloc (.cells a2 t2)) a3 t3
  have h4 := HasC.new ((((w.alloc (.cells a0 t0)).alloc (.cells a1 t1)).alloc (.cells a2 t2)).alloc (.cells a3 t3)) a4 t4
  have h5 := HasC.new (((((w.alloc (.cells a0 t0)).alloc (.cells a1 t1)).alloc (.cells a2 t2)).alloc (.cells a3 t3)).alloc (.cells a4 t4)) a5 t5
  simp only [World.size_alloc] at h1 h2 h3 h4 h5
  refine ⟨_, rfl, (((((h0.alloc _).alloc _).alloc _).alloc _).alloc _), ((((h1.alloc _).alloc _).alloc _).alloc _), (((h2.alloc _).alloc _).alloc _), ((h3.alloc _).alloc _), h4.alloc _, h5, ?_, by simp⟩
  exact ((((((Below.refl _ w).alloc (by simp) _).alloc (by simp) _).alloc (by simp; omega) _).alloc (by simp; omega) _).alloc (by simp; omega) _).alloc (by simp; omega) _
theorem HasC.not_row {W : World} {B : Nat} {t e : TypeId} {cs : Array Value} (h : HasC W B cs t) (hte : t ≠ e) {base size k : Nat} {v : Value} {xs : List Value} (hr : W.ownsRow base e size v k xs) : some B ≠ v.ownBlock := by
  rcases hr.2 with ⟨rfl, _⟩ | ⟨g, cap, cur, rfl, _, hgb, _⟩
  · simp [Value.ownBlock]
  · intro e'
    obtain rfl : B = g := by simpa [Value.ownBlock] using e'
    have := (show W.heap[B]? = _ from h).symm.trans hgb
    simp at this
    exact hte this.2
theorem HasC.appended {W w1 : World} {n₀ B B9 : Nat} {t e : TypeId} {cs : Array Value} {size : Nat} {v : Value} {k : Nat} {xs : List Value} {tmp : Obj} (h : HasC W B cs t) (hte : t ≠ e) (hrow : W.ownsRow n₀ e size v k xs)
    (hgrow : (W.alloc tmp).grownBy w1 v.ownBlock) (hne : B ≠ B9) (u : Value) : HasC (w1.setCell ⟨B9, 0, none⟩ u) B cs t :=
  (((h.alloc tmp).kept hgrow (h.not_row hte hrow))).other hne 0 u
theorem four_blocks (w : World) (a0 a1 a2 a3 : Array Value) (t0 t1 t2 t3 : TypeId) : ∃ W0, (((w.alloc (.cells a0 t0)).alloc (.cells a1 t1)).alloc (.cells a2 t2)).alloc (.cells a3 t3) = W0 ∧
    HasC W0 w.heap.size a0 t0 ∧ HasC W0 (w.heap.size + 1) a1 t1 ∧ HasC W0 (w.heap.size + 1 + 1) a2 t2 ∧ HasC W0 (w.heap.size + 1 + 2) a3 t3 ∧ Below w.heap.size w W0 ∧ W0.heap.size = w.heap.size + 4 := by
  have h0 := HasC.new w a0 t0
  have h1 := HasC.new (w.alloc (.cells a0 t0)) a1 t1
  have h2 := HasC.new ((w.alloc (.cells a0 t0)).alloc (.cells a1 t1)) a2 t2
  have h3 := HasC.new (((w.alloc (.cells a0 t0)).alloc (.cells a1 t1)).alloc (.cells a2 t2)) a3 t3
  simp only [World.size_alloc] at h1 h2 h3
  refine ⟨_, rfl, (((h0.alloc _).alloc _).alloc _), ((h1.alloc _).alloc _), (h2.alloc _), h3, ?_, by simp⟩
  exact ((((Below.refl _ w).alloc (by simp) _).alloc (by simp) _).alloc (by simp; omega) _).alloc (by simp; omega) _
def flatW (l : List (Nat × Nat)) : List Value := l.flatMap fun x => [.int .i64 (x.1 : Nat), .int .i64 (x.2 : Nat)]
theorem flatW_snoc (l : List (Nat × Nat)) (x : Nat × Nat) : flatW (l ++ [x]) = flatW l ++ [.int .i64 (x.1 : Nat), .int .i64 (x.2 : Nat)] := by simp [flatW]
theorem flatW_get : ∀ {l : List (Nat × Nat)} {i : Nat} {x : Nat × Nat}, l[i]? = some x → (flatW l)[i * 2]? = some (.int .i64 (x.1 : Nat)) ∧ (flatW l)[i * 2 + 1]? = some (.int .i64 (x.2 : Nat))
  | y :: l, 0, x, h => by
    simp at h; subst h
    exact ⟨rfl, rfl⟩
  | y :: l, i + 1, x, h => by
    have := flatW_get (l := l) (i := i) (x := x) (by simpa using h)
    rw [show (i + 1) * 2 = i * 2 + 2 by omega, show i * 2 + 2 + 1 = (i * 2 + 1) + 2 by omega]
    exact this
theorem run_min_at {P : Program} {w : World} (ts : Array TypeId) (t : TypeId) (k k' : IntKind) (x y : Int) : (Builtin.min_ ts t #[.int k x, .int k' y]).run P w = .ok (.int k (min x y)) w := by
  simp only [Builtin.min_, List.foldlM_cons, List.foldlM_nil, Builtin.min2, Sem.run_bind, Sem.run_pure, Result.andThen_ok]
  congr 2
  split <;> omega
theorem run_max_at {P : Program} {w : World} (ts : Array TypeId) (t : TypeId) (k k' : IntKind) (x y : Int) : (Builtin.max_ ts t #[.int k x, .int k' y]).run P w = .ok (.int k (max x y)) w := by
  simp only [Builtin.max_, List.foldlM_cons, List.foldlM_nil, Builtin.max2, Sem.run_bind, Sem.run_pure, Result.andThen_ok]
  congr 2
  split <;> omega
theorem wpListIn_minI {F : Fence} {n : Nat} {P : Program} {w : World} {ops : Array Oper} {rest : List Oper} {o : Oper} {a : Act} {Q : Exit → Act → World → Prop} (hg : o.guard = none) (x y : Operand) (ts : Array TypeId) (hop : o.op = Op.call { callee := Callee.builtin Builtin.min, args := #[x, y], argTypes := ts })
    {k k' : IntKind} {p q r : Int} (hx : a.eval x = .int k p) (hy : a.eval y = .int k' q) (hr : min p q = r) (h : wpListIn F n P ops Q rest (a.put o.dst (.int k r)) w) : wpListIn F n P ops Q (o :: rest) a w := by
  subst hr
  refine wpListIn_plain hg fun K hK' => ?_
  unfold Oper.wpIn
  refine ⟨?_, ?_⟩
  · simp [Oper.about, hop, resolve, Target.leads, Sem.run_pure]
  · rw [Oper.semAt_plain F _ _ (by rw [hop]; intro c hc'; cases hc')]
    simp [execOp, hop, resolve, invoke, builtin, hx, hy, run_min_at, Result.andThen]
    exact hK' _ _ h
theorem wpListIn_maxI {F : Fence} {n : Nat} {P : Program} {w : World} {ops : Array Oper} {rest : List Oper} {o : Oper} {a : Act} {Q : Exit → Act → World → Prop} (hg : o.guard = none) (x y : Operand) (ts : Array TypeId) (hop : o.op = Op.call { callee := Callee.builtin Builtin.max, args := #[x, y], argTypes := ts })
    {k k' : IntKind} {p q r : Int} (hx : a.eval x = .int k p) (hy : a.eval y = .int k' q) (hr : max p q = r) (h : wpListIn F n P ops Q rest (a.put o.dst (.int k r)) w) : wpListIn F n P ops Q (o :: rest) a w := by
  subst hr
  refine wpListIn_plain hg fun K hK' => ?_
  unfold Oper.wpIn
  refine ⟨?_, ?_⟩
  · simp [Oper.about, hop, resolve, Target.leads, Sem.run_pure]
  · rw [Oper.semAt_plain F _ _ (by rw [hop]; intro c hc'; cases hc')]
    simp [execOp, hop, resolve, invoke, builtin, hx, hy, run_max_at, Result.andThen]
    exact hK' _ _ h
theorem run_zero : (Tryd.prog.info? 170).map (fun i => (i.zero, i.size, i.bytes)) = some (some (.agg #[.int .i64 0, .int .i64 0]), 2, 16) := by kernel_rfl
structure MovI (w : World) (N1 : Nat) (dsz ddr ddl : Int) (df : Bool) (row nv : Nat) (V S : Array Value) (pre : List (Nat × Nat)) (W : World) : Prop where
  l : ∃ v, Boxed W (w.heap.size + 1 + 1 + 1 + 1) 165 v ∧ W.ownsRow w.heap.size 170 2 v pre.length (flatW pre) ∧ True
  d : HasC W w.heap.size #[.int .i64 dsz, .int .i64 ddr, .int .i64 ddl, .bool df] 68
  z : HasC W (w.heap.size + 1 + 1 + 1) #[.int .i64 0, .int .i64 0, .int .i64 0, .bool false] 68
  now : HasC W (w.heap.size + 1 + 1 + 1 + 1 + 1) #[.int .i64 (nv : Nat)] 3
  rw : HasC W N1 #[.int .i64 (row : Int)] 3
  b0 : HasC W (N1 + 1) #[.int .i64 dsz] 3
  b1 : HasC W (N1 + 1 + 1) V 61
  b2 : HasC W (N1 + 1 + 2) S 66
  be : Below w.heap.size w W
theorem MovI.own (w : World) (N1 : Nat) (dsz ddr ddl : Int) (df : Bool) (row : Nat) (f : List (Nat × Nat) → Nat) (V S : Array Value) {B : Nat} (hB : w.heap.size ≤ B) : OwnFrom B (fun pre W => MovI w N1 dsz ddr ddl df row (f pre) V S pre W) := fun s X Y rw' h hg hr => by
  have hr' : ∀ r, rw' = some r → ∃ o : Obj, X.heap[r]? = some o ∧ o.isCells = false := fun r e => (hr r e).2
  exact ⟨holdsRow_own w.heap.size (w.heap.size + 1 + 1 + 1 + 1) 165 170 2 (fun pre => pre.length) flatW (fun _ _ => True) s X Y rw' h.l hg hr',
    HasC.own w.heap.size _ (fun (_ : Unit) => _) () X Y rw' h.d hg hr', HasC.own _ _ (fun (_ : Unit) => _) () X Y rw' h.z hg hr', HasC.own _ _ (fun (_ : Unit) => _) () X Y rw' h.now hg hr', HasC.own _ _ (fun (_ : Unit) => _) () X Y rw' h.rw hg hr',
    HasC.own _ _ (fun (_ : Unit) => _) () X Y rw' h.b0 hg hr', HasC.own _ _ (fun (_ : Unit) => _) () X Y rw' h.b1 hg hr', HasC.own _ _ (fun (_ : Unit) => _) () X Y rw' h.b2 hg hr',
    ownFrom_below (Nat.le_refl _) hB s X Y rw' h.be hg hr⟩
theorem MovI.kp {w W W' : World} {N1 : Nat} {dsz ddr ddl : Int} {df : Bool} {row nv nv' : Nat} {V S : Array Value} {p q : List (Nat × Nat)} (h : MovI w N1 dsz ddr ddl df row nv V S p W) (h' : MovI w N1 dsz ddr ddl df row nv' V S q W') (hb : Below w.heap.size W W') : Kp3 w.heap.size (N1 + 1) W W' :=
  ⟨hb, fun k h1 h2 => by
    rcases (show k = N1 + 1 ∨ k = N1 + 1 + 1 ∨ k = N1 + 1 + 2 by omega) with rfl | rfl | rfl
    · exact (show W'.heap[_]? = _ from h'.b0).trans (show W.heap[_]? = _ from h.b0).symm
    · exact (show W'.heap[_]? = _ from h'.b1).trans (show W.heap[_]? = _ from h.b1).symm
    · exact (show W'.heap[_]? = _ from h'.b2).trans (show W.heap[_]? = _ from h.b2).symm⟩
theorem MovI.alloc {w W : World} {N1 : Nat} {dsz ddr ddl : Int} {df : Bool} {row nv : Nat} {V S : Array Value} {p : List (Nat × Nat)} (h : MovI w N1 dsz ddr ddl df row nv V S p W) (o : Obj) : MovI w N1 dsz ddr ddl df row nv V S p (W.alloc o) :=
  MovI.own w N1 dsz ddr ddl df row (fun _ => nv) V S (Nat.le_refl _) p W _ none h (World.grownBy_alloc W o none) (fun r e => by cases e)
theorem MovI.setNow {w W : World} {N1 : Nat} {dsz ddr ddl : Int} {df : Bool} {row nv : Nat} {V S : Array Value} {p : List (Nat × Nat)} (h : MovI w N1 dsz ddr ddl df row nv V S p W) (hN : w.heap.size + 1 + 1 + 1 + 1 + 1 < N1) {v : Value} (hv : Boxed W (w.heap.size + 1 + 1 + 1 + 1) 165 v) (hrow : W.ownsRow w.heap.size 170 2 v p.length (flatW p)) (nv' : Nat) :
    MovI w N1 dsz ddr ddl df row nv' V S p (W.setCell ⟨w.heap.size + 1 + 1 + 1 + 1 + 1, 0, none⟩ (.int .i64 (nv' : Nat))) ∧ Boxed (W.setCell ⟨w.heap.size + 1 + 1 + 1 + 1 + 1, 0, none⟩ (.int .i64 (nv' : Nat))) (w.heap.size + 1 + 1 + 1 + 1) 165 v ∧
      (W.setCell ⟨w.heap.size + 1 + 1 + 1 + 1 + 1, 0, none⟩ (.int .i64 (nv' : Nat))).ownsRow w.heap.size 170 2 v p.length (flatW p) := by
  have hv2 : Boxed (W.setCell ⟨w.heap.size + 1 + 1 + 1 + 1 + 1, 0, none⟩ (.int .i64 (nv' : Nat))) (w.heap.size + 1 + 1 + 1 + 1) 165 v := hv.other (by omega) _
  have hrow2 : (W.setCell ⟨w.heap.size + 1 + 1 + 1 + 1 + 1, 0, none⟩ (.int .i64 (nv' : Nat))).ownsRow w.heap.size 170 2 v p.length (flatW p) := hrow.kept (grownBy_setCell' W _ _) (.inr (h.now.not_row (by decide) hrow).symm)
  exact ⟨⟨⟨v, hv2, hrow2, trivial⟩, h.d.other (by omega) _ _, h.z.other (by omega) _ _, Boxed.set _ h.now, h.rw.other (by omega) _ _, h.b0.other (by omega) _ _, h.b1.other (by omega) _ _, h.b2.other (by omega) _ _, h.be.setCell (p := ⟨_, 0, none⟩) (by simp; omega) _⟩, hv2, hrow2⟩
theorem MovI.step {w W w1 : World} {N1 : Nat} {dsz ddr ddl : Int} {df : Bool} {row nv : Nat} {V S : Array Value} {p : List (Nat × Nat)} {x : Nat × Nat} (h : MovI w N1 dsz ddr ddl df row nv V S p W) (hN : w.heap.size + 1 + 1 + 1 + 1 + 1 < N1) {v v' : Value} {tmp : Obj}
    (hv : Boxed W (w.heap.size + 1 + 1 + 1 + 1) 165 v) (hrow : W.ownsRow w.heap.size 170 2 v p.length (flatW p))
    (hown' : w1.ownsRow w.heap.size 170 2 v' (p.length + 1) (flatW p ++ [.int .i64 (x.1 : Nat), .int .i64 (x.2 : Nat)])) (hgrow : (W.alloc tmp).grownBy w1 v.ownBlock) :
    Boxed w1 (w.heap.size + 1 + 1 + 1 + 1) 165 v ∧ KeepsOthers W (w1.setCell ⟨w.heap.size + 1 + 1 + 1 + 1, 0, none⟩ v') ∧ Below w.heap.size W (w1.setCell ⟨w.heap.size + 1 + 1 + 1 + 1, 0, none⟩ v') ∧ MovI w N1 dsz ddr ddl df row nv V S (p ++ [x]) (w1.setCell ⟨w.heap.size + 1 + 1 + 1 + 1, 0, none⟩ v') := by
  obtain ⟨k1, k2, k3, k4, k5⟩ := hv.appended (by decide) hrow h.be.size (by omega) hown' hgrow
  refine ⟨k1, k4, k5, ⟨v', k2, by rw [List.length_append, flatW_snoc]; exact k3, trivial⟩, h.d.appended (by decide) hrow hgrow (by omega) _, h.z.appended (by decide) hrow hgrow (by omega) _, h.now.appended (by decide) hrow hgrow (by omega) _, h.rw.appended (by decide) hrow hgrow (by omega) _,
    h.b0.appended (by decide) hrow hgrow (by omega) _, h.b1.appended (by decide) hrow hgrow (by omega) _, h.b2.appended (by decide) hrow hgrow (by omega) _, h.be.trans k5⟩
theorem qig (w : World) (n : Nat) (hn : n = w.heap.size) (x y : Value) (t : TypeId) : ∀ j u, [x, y][j]? = some u → (w.alloc (.cells #[x, y] t)).cell? ((⟨n, 0, none⟩ : Addr).add j) = some u := by
  subst hn
  intro j u hj
  have h := HasC.new w #[x, y] t
  match j, hj with
  | 0, hj =>
    simp at hj; subst hj
    simp [Addr.add, h.cell 0 rfl]
  | 1, hj =>
    simp at hj; subst hj
    simp [Addr.add, h.cell 1 rfl]
theorem qij {W : World} {base : Nat} {e : TypeId} {size : Nat} {v : Value} {k : Nat} {xs : List Value} (h : W.ownsRow base e size v k xs) : ∃ a cap, v = .slice a k cap := by
  rcases h.2 with ⟨rfl, rfl⟩ | ⟨g, cap, _, rfl, _⟩
  · exact ⟨none, 0, rfl⟩
  · exact ⟨_, cap, rfl⟩
set_option maxRecDepth 100000 in
set_option maxHeartbeats 4000000 in
theorem moved_in (n : Nat) (hn : 4 ≤ n) (b off m cap : Nat) (sz : Nat) (dr dl : Nat) (df : Bool) (row : Nat) (by' : Int) (v0 v1 v3 v4 v5 s0 s1 s2 s3 s4 s5 : Value) (ns : List Nat) (rv : Nat → Value) (hm : ns.length = m) (hm1 : 1 ≤ m) (hm9 : m ≤ 1000) (hsz : 1 ≤ sz) (hsz9 : sz ≤ 80) (hns : ∀ k ∈ ns, k ≤ 10000) (w : World)
    (hb : b < w.heap.size)
    (hOf : ∀ i (hi : i < m) (W' : World), Below w.heap.size w W' → Calls Tryd.prog 19 #[rv i, .agg #[s0, s1, s2, s3, s4, s5]] W' fun e w' => ∃ a1 cap1 u, e = .returned (.agg #[.slice a1 (ns.getD i 0) cap1, u]) ∧ Below W'.heap.size W' w')
    (hCur : ∀ (W' : World), Below w.heap.size w W' → Calls Tryd.prog 48 #[.agg #[.int .i64 (sz : Int), .int .i64 (dr : Int), .int .i64 (dl : Int), .bool df], .agg #[v0, v1, .slice (some ⟨b, off, none⟩) m cap, v3, v4, v5]] W' fun e w' => e = .returned (.int .i64 (row : Int)) ∧ Below W'.heap.size W' w')
    (hc : ∀ i, i < m → w.cell? ⟨b, off + i, none⟩ = some (rv i)) :
    CallsIn Fence.wide n Tryd.prog 50 #[.agg #[.int .i64 (sz : Int), .int .i64 (dr : Int), .int .i64 (dl : Int), .bool df], .agg #[v0, v1, .slice (some ⟨b, off, none⟩) m cap, v3, v4, v5], .agg #[s0, s1, s2, s3, s4, s5], .int .i64 by'] w fun e W' =>
      (∃ x : Nat × Nat, (winsW sz 0 ns)[(panI (offW sz ns) (nowW row dl (winsW sz 0 ns)) by').toNat]? = some x ∧ e = .returned (.agg #[.int .i64 (sz : Int), .int .i64 (x.1 : Nat), .int .i64 (x.2 : Nat), .bool df])) ∧ Below w.heap.size w W' := by
  have h1 : 1 ≤ n := by omega
  refine callsIn_of_wp_marks Tryd.func50 rfl trivial ?_ rfl
  simp only [Tryd.ntmps50, List.size_toArray, List.length_cons, List.length_nil, Nat.reduceAdd, Nat.reduceSub, Array.replicate_succ, Array.replicate_zero, List.push_toArray, List.append_toArray, List.nil_append, List.cons_append]
  gi_wp2_with fail
  obtain ⟨W0, hW0, f0, f1, f2, f3, f4, f5, hB0, hsz0⟩ := six_blocks w #[.int .i64 (sz : Int), .int .i64 (dr : Int), .int .i64 (dl : Int), .bool df] #[v0, v1, .slice (some ⟨b, off, none⟩) m cap, v3, v4, v5] #[s0, s1, s2, s3, s4, s5] #[.int .i64 0, .int .i64 0, .int .i64 0, .bool false] #[.slice none 0 0] #[.int .i64 0] 68 61 66 68 165 3
  rw [hW0]
  clear hW0
  refine ⟨trivial, ?_⟩
  refine (callsIn_wide.2 (hCur W0 hB0)).mono ?_
  rintro e W1 ⟨rfl, hb1⟩
  have hB1 := hB0.trans (hb1.mono (by omega))
  have g0 := f0.below hb1 (by omega)
  have g1 := f1.below hb1 (by omega)
  have g2 := f2.below hb1 (by omega)
  have g3 := f3.below hb1 (by omega)
  have g4 := f4.below hb1 (by omega)
  have g5 := f5.below hb1 (by omega)
  have hsz1 := hb1.size
  clear f0 f1 f2 f3 f4 f5 hb1 hB0
  have c00 := (g0.alloc (.cells #[.int .i64 (row : Int)] 3)).cell 0 rfl
  have c10 := (g1.alloc (.cells #[.int .i64 (row : Int)] 3)).cell 0 rfl
  have c11 := (g1.alloc (.cells #[.int .i64 (row : Int)] 3)).cell 1 rfl
  have c12 := (g1.alloc (.cells #[.int .i64 (row : Int)] 3)).cell 2 rfl
  have c13 := (g1.alloc (.cells #[.int .i64 (row : Int)] 3)).cell 3 rfl
  have c14 := (g1.alloc (.cells #[.int .i64 (row : Int)] 3)).cell 4 rfl
  have c15 := (g1.alloc (.cells #[.int .i64 (row : Int)] 3)).cell 5 rfl
  have c20 := (g2.alloc (.cells #[.int .i64 (row : Int)] 3)).cell 0 rfl
  have c21 := (g2.alloc (.cells #[.int .i64 (row : Int)] 3)).cell 1 rfl
  have c22 := (g2.alloc (.cells #[.int .i64 (row : Int)] 3)).cell 2 rfl
  have c23 := (g2.alloc (.cells #[.int .i64 (row : Int)] 3)).cell 3 rfl
  have c24 := (g2.alloc (.cells #[.int .i64 (row : Int)] 3)).cell 4 rfl
  have c25 := (g2.alloc (.cells #[.int .i64 (row : Int)] 3)).cell 5 rfl
  gi_wp2_with (refine ⟨trivial, ?_⟩; gi_at_call 91; refine (windows_in _ _ _ _ _ _ _ _ _ _ _ _ _ _ _).mono ?_; rintro e w' ⟨rfl, rfl⟩)
  obtain ⟨WL, hWL, e0, e1, e2, e3, hB2, hsz2⟩ := four_blocks W1 #[.int .i64 (row : Int)] #[.int .i64 (sz : Int)] #[v0, v1, .slice (some ⟨b, off, none⟩) m cap, v3, v4, v5] #[s0, s1, s2, s3, s4, s5] 3 3 61 66
  rw [hWL]
  clear hWL c00 c10 c11 c12 c13 c14 c15 c20 c21 c22 c23 c24 c25
  have hI0 : MovI w W1.heap.size sz dr dl df row (nowW row dl []) #[v0, v1, .slice (some ⟨b, off, none⟩) m cap, v3, v4, v5] #[s0, s1, s2, s3, s4, s5] [] WL :=
    ⟨⟨_, g4.below hB2 (by omega), World.ownsRow_nil _ _ _ _, trivial⟩, g0.below hB2 (by omega), g3.below hB2 (by omega), g5.below hB2 (by omega), e0, e1, e2, e3, hB1.trans (hB2.mono (by omega))⟩
  clear g0 g1 g2 g3 g4 g5 e0 e1 e2 e3
  refine wpIn_rangeFunc_ownH rfl h1 (gf := 122) (lb := #[.pointer (some ⟨W1.heap.size + 1 + 1, 0, none⟩), .pointer (some ⟨W1.heap.size + 1 + 2, 0, none⟩), .pointer (some ⟨W1.heap.size + 1, 0, none⟩)]) rfl trivial (enters_of Tryd.func122 (by kernel_rfl) rfl)
    (encs := fun x : Nat × Nat => #[.agg #[.int .i64 (x.1 : Nat), .int .i64 (x.2 : Nat)]]) (Kp := Kp3 w.heap.size (W1.heap.size + 1)) (S := fun ys => ys = winsW sz 0 ns) (Sp := fun _ => True) (N := offW sz ns) (w0 := WL)
    (fun l J Jx W hW hJ hJx hY h0 => win1_in (n - 1) (by omega) l (W1.heap.size + 1) w.heap.size b off m cap sz s0 s1 s2 s3 s4 s5 ns rv hm (by omega) hsz hsz9 (fun k hk => Nat.le_trans (hns k hk) (by omega)) hb J Jx W hJ (by have := hW.size; omega) (by have := hW.size; omega)
      (fun i hi W' hW' => hOf i hi W' ((hI0.be.trans (hW.mono (by omega))).trans hW')) hY ((hI0.b1.below hW (by omega)).cell 2 rfl) ((hI0.b0.below hW (by omega)).cell 0 rfl) ((hI0.b2.below hW (by omega)).cell 0 rfl) ((hI0.b2.below hW (by omega)).cell 1 rfl) ((hI0.b2.below hW (by omega)).cell 2 rfl) ((hI0.b2.below hW (by omega)).cell 3 rfl) ((hI0.b2.below hW (by omega)).cell 4 rfl) ((hI0.b2.below hW (by omega)).cell 5 rfl)
      (fun i hi => ((hI0.be.trans (hW.mono (by omega))).cell (p := ⟨b, off + i, none⟩) hb).trans (hc i hi)) h0)
    Kp3.trans (fun W l o o' hl h hc hw => Kp3.putObj (w := WL) (by omega) (by omega) W l o o' hl h hc hw) (Below.refl _ _) (fun _ => rfl)
    (fun pre W => MovI w W1.heap.size sz dr dl df row (nowW row dl pre) #[v0, v1, .slice (some ⟨b, off, none⟩) m cap, v3, v4, v5] #[s0, s1, s2, s3, s4, s5] pre W) (fun _ _ _ => False)
    (MovI.own _ _ _ _ _ _ _ _ _ _ (by omega)) (fun _ _ _ _ _ hs _ _ => hs) hI0
    (fun x a' W => ∃ Bx, WL.heap.size ≤ Bx ∧ HasC W Bx #[.int .i64 (x.1 : Nat), .int .i64 (x.2 : Nat)] 170 ∧ a' = { tmps := #[.agg #[.int .i64 (sz : Int), .int .i64 (dr : Int), .int .i64 (dl : Int), .bool df], .agg #[v0, v1, .slice (some ⟨b, off, none⟩) m cap, v3, v4, v5], .agg #[s0, s1, s2, s3, s4, s5], .int .i64 by', .pointer (some ⟨w.heap.size, 0, none⟩), .pointer (some ⟨w.heap.size + 1, 0, none⟩), .pointer (some ⟨w.heap.size + 1 + 1, 0, none⟩), undef, .pointer (some ⟨w.heap.size + 1 + 1 + 1, 0, none⟩), .pointer (some ⟨w.heap.size + 1 + 1 + 1 + 1, 0, none⟩), .pointer (some ⟨w.heap.size + 1 + 1 + 1 + 1 + 1, 0, none⟩), .pointer (some ⟨W1.heap.size, 0, none⟩), .pointer (some ⟨Bx, 0, none⟩), undef, undef, .agg #[.int .i64 (sz : Int), .int .i64 (dr : Int), .int .i64 (dl : Int), .bool df], .agg #[v0, v1, .slice (some ⟨b, off, none⟩) m cap, v3, v4, v5], .int .i64 (row : Int), .pointer (some ⟨w.heap.size, 0, none⟩), .int .i64 (sz : Int), .agg #[v0, v1, .slice (some ⟨b, off, none⟩) m cap, v3, v4, v5], .agg #[s0, s1, s2, s3, s4, s5], .func (.func 122) #[] #[.pointer (some ⟨W1.heap.size + 1 + 1, 0, none⟩), .pointer (some ⟨W1.heap.size + 1 + 2, 0, none⟩), .pointer (some ⟨W1.heap.size + 1, 0, none⟩)], .agg #[.int .i64 (x.1 : Nat), .int .i64 (x.2 : Nat)], undef, undef, undef, undef, undef, undef, undef, undef, undef, undef, undef, undef, undef, undef, undef, undef, undef, undef, undef, undef, undef, undef, undef, undef, undef, undef, undef, undef, undef, undef, undef, undef, undef, undef, undef, undef, undef, undef, undef, undef, undef], defers := [] })
    (fun x a' _ X Y rw' hs hg hr => by obtain ⟨Bx, h1, h2, h3⟩ := hs; exact ⟨Bx, h1, HasC.own Bx _ (fun (_ : Unit) => _) () X Y rw' h2 hg (fun r e => (hr r e).2), h3⟩)
    ?assign ?body ?done ?stop
  case assign =>
    rintro l pre x W K hi hK
    gi_wp2
    have := hi.b2.lt
    exact hK _ _ ((KeepsOthers.alloc _ _).from _) ⟨(Below.refl _ W).alloc hi.be.size _, fun k h1 h2 => Below.heap_alloc _ _ _ (by omega)⟩ (hi.alloc _) ⟨W.heap.size, by omega, HasC.new W _ _, rfl⟩
  case body =>
    rintro l pre x a' W hl ⟨r, hr⟩ hi ⟨Bx, hBx, hX, rfl⟩ hlt
    obtain ⟨v, hv, hrow, _⟩ := hi.l
    obtain ⟨i0, hi0, hz0, hz1, hz2⟩ := info_parts run_zero
    obtain ⟨av, cv, rfl⟩ := qij hrow
    have hoff : offW sz ns ≤ 1000 * 10001 := Nat.le_trans (offW_bd hns) (by rw [hm]; exact Nat.mul_le_mul_right _ hm9)
    have hNN : w.heap.size + 1 + 1 + 1 + 1 + 1 < W1.heap.size := by omega
    have c0 := hi.d.cell 2 rfl
    have cX0 := hX.cell 0 rfl
    have cX1 := hX.cell 1 rfl
    have cr := hi.rw.cell 0 rfl
    have cl := hv.cell
    have cn := hi.now.cell 0 rfl
    have fn := hi.now.frozen 0
    obtain ⟨xr, xl⟩ := x
    dsimp only at cX0 cX1 hX ⊢
    by_cases hx1 : xr = row
    · subst hx1
      by_cases hx2 : xl ≤ dl
      · obtain ⟨hi2, hv2, hrow2⟩ := hi.setNow hNN hv hrow pre.length
        have hX2 := hX.other (show Bx ≠ w.heap.size + 1 + 1 + 1 + 1 + 1 by omega) 0 (.int .i64 (pre.length : Nat))
        have cX20 := hX2.cell 0 rfl
        have cX21 := hX2.cell 1 rfl
        have cl2 := hv2.cell
        gi_wp2_with (gi_at_builtin; refine wpListIn_append_own _ rfl _ _ 165 rfl w.heap.size 170 i0 _ 2 16 Tryd.underlying165 hi0 hz0 hz1 hz2 rfl (by decide) _ _ _ rfl (hrow2.alloc _) ⟨W.heap.size, 0, none⟩ 1 1 [.int .i64 (xr : Nat), .int .i64 (xl : Nat)] rfl rfl (qig _ _ (by simp) _ _ _) (by simp [Value.oneCell']) (by simp [maxLen]; omega) (by omega) (by have := hi.be.size; simp; omega) ?_; intro v' w1 hown' hgrow _; obtain ⟨g', cap', rfl⟩ := ownsRow_succ hown'; obtain ⟨hv1, hk2, hb2, hi3⟩ := hi2.step (x := (xr, xl)) hNN hv2 hrow2 hown' hgrow; have hc1 := hv1.cell; have hf1 := hv1.frozen)
        have hnow' : nowW xr dl (pre ++ [(xr, xl)]) = pre.length := by rw [qia, if_pos ⟨rfl, hx2⟩]
        have hbW : Below w.heap.size W _ := ((Below.refl _ W).setCell (p := ⟨w.heap.size + 1 + 1 + 1 + 1 + 1, 0, none⟩) (by simp; omega) _).trans hb2
        exact ⟨((KeepsOthers.setCell W _ _).trans hk2).from _, hi.kp hi3 hbW, by simp only [hnow']; exact hi3⟩
      · gi_wp2_with (gi_at_builtin; refine wpListIn_append_own _ rfl _ _ 165 rfl w.heap.size 170 i0 _ 2 16 Tryd.underlying165 hi0 hz0 hz1 hz2 rfl (by decide) _ _ _ rfl (hrow.alloc _) ⟨W.heap.size, 0, none⟩ 1 1 [.int .i64 (xr : Nat), .int .i64 (xl : Nat)] rfl rfl (qig _ _ (by simp) _ _ _) (by simp [Value.oneCell']) (by simp [maxLen]; omega) (by omega) (by have := hi.be.size; simp; omega) ?_; intro v' w1 hown' hgrow _; obtain ⟨g', cap', rfl⟩ := ownsRow_succ hown'; obtain ⟨hv1, hk2, hb2, hi3⟩ := hi.step (x := (xr, xl)) hNN hv hrow hown' hgrow; have hc1 := hv1.cell; have hf1 := hv1.frozen)
        have hnow' : nowW xr dl (pre ++ [(xr, xl)]) = nowW xr dl pre := by rw [qia, if_neg (fun h => hx2 h.2)]
        exact ⟨hk2.from _, hi.kp hi3 hb2, by simp only [hnow']; exact hi3⟩
    · gi_wp2_with (gi_at_builtin; refine wpListIn_append_own _ rfl _ _ 165 rfl w.heap.size 170 i0 _ 2 16 Tryd.underlying165 hi0 hz0 hz1 hz2 rfl (by decide) _ _ _ rfl (hrow.alloc _) ⟨W.heap.size, 0, none⟩ 1 1 [.int .i64 (xr : Nat), .int .i64 (xl : Nat)] rfl rfl (qig _ _ (by simp) _ _ _) (by simp [Value.oneCell']) (by simp [maxLen]; omega) (by omega) (by have := hi.be.size; simp; omega) ?_; intro v' w1 hown' hgrow _; obtain ⟨g', cap', rfl⟩ := ownsRow_succ hown'; obtain ⟨hv1, hk2, hb2, hi3⟩ := hi.step (x := (xr, xl)) hNN hv hrow hown' hgrow; have hc1 := hv1.cell; have hf1 := hv1.frozen)
      have hnow' : nowW row dl (pre ++ [(xr, xl)]) = nowW row dl pre := by rw [qia, if_neg (fun h => hx1 h.1)]
      exact ⟨hk2.from _, hi.kp hi3 hb2, by simp only [hnow']; exact hi3⟩
  case done =>
    rintro D zs W hD rfl hi hK
    obtain ⟨v, hv, hrow, _⟩ := hi.l
    obtain ⟨av, cv, rfl⟩ := qij hrow
    have hlen : (winsW sz 0 ns).length = offW sz ns := qii _ _ _
    have hoff1 : 1 ≤ offW sz ns := by
      obtain ⟨nn, hnn⟩ : ∃ nn, ns[0]? = some nn := ⟨_, List.getElem?_eq_getElem (by omega)⟩
      have := qh6 sz hnn
      have := qh8 sz ns 1
      have := qih sz nn
      simp at *
      omega
    have cl := hv.cell
    have cn := hi.now.cell 0 rfl
    obtain ⟨g, cur, rfl, hg, hcur⟩ : ∃ g cur, av = some ⟨g, 0, none⟩ ∧ W.heap[g]? = some (.cells cur 170 (0, 0)) ∧ cur.toList.take ((winsW sz 0 ns).length * 2) = flatW (winsW sz 0 ns) := by
      rcases hrow.2 with ⟨h, h0⟩ | ⟨g, cap', cur, h, _, hg, _, _, _, hcur⟩
      · omega
      · cases h
        exact ⟨g, cur, rfl, hg, hcur⟩
    have hnowb0 : nowW row dl (winsW sz 0 ns) ≤ 1000 * 10001 := Nat.le_trans (nowW_bnd _ _ _) (by rw [hlen]; exact Nat.le_trans (offW_bd hns) (by rw [hm]; exact Nat.mul_le_mul_right _ hm9))
    have hp := panI_lt (n := offW sz ns) (a := nowW row dl (winsW sz 0 ns)) (x := by') hoff1
    obtain ⟨t, ht⟩ : ∃ t : Nat, panI (offW sz ns) (nowW row dl (winsW sz 0 ns)) by' = t := ⟨_, (Int.toNat_of_nonneg hp.1).symm⟩
    rw [ht] at hp
    obtain ⟨x, hx⟩ : ∃ x, (winsW sz 0 ns)[t]? = some x := ⟨_, List.getElem?_eq_getElem (by omega)⟩
    have hfw := flatW_get hx
    have hnowb : nowW row dl (winsW sz 0 ns) ≤ 1000 * 10001 := hnowb0
    have hoff : offW sz ns ≤ 1000 * 10001 := Nat.le_trans (offW_bd hns) (by rw [hm]; exact Nat.mul_le_mul_right _ hm9)
    have hcell : ∀ j, j < (winsW sz 0 ns).length * 2 → W.cell? ⟨g, j, none⟩ = (flatW (winsW sz 0 ns))[j]? := fun j hj => by
      rw [← hcur, List.getElem?_take_of_lt hj]
      simp [World.cell?, hg]
    have ct0 : W.cell? ⟨g, t * 2, none⟩ = some (.int .i64 (x.1 : Nat)) := (hcell _ (by omega)).trans hfw.1
    have ct1 : W.cell? ⟨g, t * 2 + 1, none⟩ = some (.int .i64 (x.2 : Nat)) := (hcell _ (by omega)).trans hfw.2
    have hfin : (winsW sz 0 ns)[(panI (offW sz ns) (nowW row dl (winsW sz 0 ns)) by').toNat]? = some x := by rw [ht, Int.toNat_natCast]; exact hx
    have HF : Hid ((winsW sz 0 ns)[(panI (offW sz ns) (nowW row dl (winsW sz 0 ns)) by').toNat]? = some x) := hfin
    clear hfin
    unfold panI at ht
    rw [hlen] at cl
    generalize hnowE : nowW row dl (winsW sz 0 ns) = now at hi hnowb hnowb0 ht cn
    generalize hNE : offW sz ns = N at *
    obtain ⟨q1, hq1⟩ : ∃ q1, min by' (N : Int) = q1 := ⟨_, rfl⟩
    rw [hq1] at ht
    obtain ⟨q2, hq2⟩ : ∃ q2, max (-(N : Int)) q1 = q2 := ⟨_, rfl⟩
    rw [hq2] at ht
    obtain ⟨q3, hq3⟩ : ∃ q3, min ((now : Int) + q2) ((N : Int) - 1) = q3 := ⟨_, rfl⟩
    rw [hq3] at ht
    have hqa : -(N : Int) ≤ q2 := by omega
    have hqb : q2 ≤ (N : Int) := by omega
    have htN : t < N := by omega
    gi_wp2_with (first | refine wpListIn_minI rfl _ _ _ rfl rfl rfl (by first | exact hq1 | exact hq3) ?_ | refine wpListIn_maxI rfl _ _ _ rfl rfl rfl (by first | exact hq2 | exact ht) ?_)
    obtain ⟨W2, hW2, hd2, hx2, hz2, hK2, hbe2, hlt2, hdt2⟩ : ∃ W2, W.alloc (.cells #[.int .i64 (x.1 : Nat), .int .i64 (x.2 : Nat)] 170) = W2 ∧ HasC W2 w.heap.size #[.int .i64 (sz : Int), .int .i64 (dr : Int), .int .i64 (dl : Int), .bool df] 68 ∧ HasC W2 W.heap.size #[.int .i64 (x.1 : Nat), .int .i64 (x.2 : Nat)] 170 ∧
        HasC W2 (w.heap.size + 1 + 1 + 1) #[.int .i64 0, .int .i64 0, .int .i64 0, .bool false] 68 ∧ W2.heap[D]? = some (.deferred (some [])) ∧ Below w.heap.size w W2 ∧ w.heap.size + 1 + 1 + 1 < W.heap.size ∧ w.heap.size + 1 + 1 + 1 < D :=
      ⟨_, rfl, hi.d.alloc _, HasC.new W _ _, hi.z.alloc _, (Below.heap_alloc _ _ _ (Array.getElem?_eq_some_iff.1 hK).1).trans hK, hi.be.alloc hi.be.size _, hi.z.lt, by omega⟩
    rw [hW2]
    generalize W.heap.size = Bt at *
    have d0 := hd2.cell 0 rfl
    have d1 := hd2.cell 1 rfl
    have d2 := hd2.cell 2 rfl
    have d3 := hd2.cell 3 rfl
    have fd1 := hd2.frozen 1
    have fd2 := hd2.frozen 2
    have x0 := hx2.cell 0 rfl
    have x1 := hx2.cell 1 rfl
    gi_region
    clear d0 d1 d2 d3 fd1 fd2 x0 x1 cl cn
    obtain ⟨W3, hW3, hd3, hz3, hK3, hbe3⟩ : ∃ W3, ((W2.setCell ⟨w.heap.size, 1, none⟩ (.int .i64 (x.1 : Nat))).setCell ⟨w.heap.size, 2, none⟩ (.int .i64 (x.2 : Nat))).drew = W3 ∧ HasC W3 w.heap.size #[.int .i64 (sz : Int), .int .i64 (x.1 : Nat), .int .i64 (x.2 : Nat), .bool df] 68 ∧
        HasC W3 (w.heap.size + 1 + 1 + 1) #[.int .i64 0, .int .i64 0, .int .i64 0, .bool false] 68 ∧ W3.heap[D]? = some (.deferred (some [])) ∧ Below w.heap.size w W3 :=
      ⟨_, rfl, (hd2.set' 1 (.int .i64 (x.1 : Nat)) rfl).set' 2 (.int .i64 (x.2 : Nat)) rfl, (hz2.other (by omega) 1 _).other (by omega) 2 _, qh7 (qh7 hK2 (by omega) _) (by omega) _, ((hbe2.setCell (p := ⟨w.heap.size, 1, none⟩) (by simp) _).setCell (p := ⟨w.heap.size, 2, none⟩) (by simp) _).drew⟩
    rw [hW3]
    clear hW3 hW2 hd2 hx2 hz2 hK2 hbe2
    have d0 := hd3.cell 0 rfl
    have d1 := hd3.cell 1 rfl
    have d2 := hd3.cell 2 rfl
    have d3 := hd3.cell 3 rfl
    have z0 := hz3.cell 0 rfl
    have z1 := hz3.cell 1 rfl
    have z2 := hz3.cell 2 rfl
    have z3 := hz3.cell 3 rfl
    have fz0 := hz3.frozen 0
    have fz1 := hz3.frozen 1
    have fz2 := hz3.frozen 2
    have fz3 := hz3.frozen 3
    gi_wp2
    have hz4 := (((hz3.set' 0 (.int .i64 (sz : Int)) rfl).set' 1 (.int .i64 (x.1 : Nat)) rfl).set' 2 (.int .i64 (x.2 : Nat)) rfl).set' 3 (.bool df) rfl
    have hK4 : ((((W3.setCell ⟨w.heap.size + 1 + 1 + 1, 0, none⟩ (.int .i64 (sz : Int))).setCell ⟨w.heap.size + 1 + 1 + 1, 1, none⟩ (.int .i64 (x.1 : Nat))).setCell ⟨w.heap.size + 1 + 1 + 1, 2, none⟩ (.int .i64 (x.2 : Nat))).setCell ⟨w.heap.size + 1 + 1 + 1, 3, none⟩ (.bool df)).heap[D]? = some (.deferred (some [])) :=
      qh7 (qh7 (qh7 (qh7 hK3 (by omega) _) (by omega) _) (by omega) _) (by omega) _
    have hbe4 := (((hbe3.setCell (p := ⟨w.heap.size + 1 + 1 + 1, 0, none⟩) (by simp; omega) (.int .i64 (sz : Int))).setCell (p := ⟨w.heap.size + 1 + 1 + 1, 1, none⟩) (by simp; omega) (.int .i64 (x.1 : Nat))).setCell (p := ⟨w.heap.size + 1 + 1 + 1, 2, none⟩) (by simp; omega) (.int .i64 (x.2 : Nat))).setCell (p := ⟨w.heap.size + 1 + 1 + 1, 3, none⟩) (by simp; omega) (.bool df)
    refine ⟨by simp, .inl ⟨_, _, rfl, run_takeDeferred hK4, ?_⟩⟩
    have hz5 := HasC.own (w.heap.size + 1 + 1 + 1) 68 (fun (_ : Unit) => _) () _ _ _ hz4 (grownBy_putObj' _ D (.deferred none)) (fun r e => by cases e; exact ⟨_, hK4, rfl⟩)
    have r0 := hz5.cell 0 rfl
    have r1 := hz5.cell 1 rfl
    have r2 := hz5.cell 2 rfl
    have r3 := hz5.cell 3 rfl
    refine ⟨.agg #[.int .i64 (sz : Int), .int .i64 (x.1 : Nat), .int .i64 (x.2 : Nat), .bool df], ?_, ⟨x, by rw [hNE]; exact HF.out, rfl⟩, hbe4.trans (belowK_b (w := w) (Nat.le_refl _) _ D _ _ (by omega) hK4 rfl rfl)⟩
    simp [results, Tryd.f50, go_sem, r0, r1, r2, r3]
  case stop =>
    rintro D c pre W _ _ h _
    exact h.elim
end
open Go.RowKit
def lensW (rows : List (List Gl)) (k : Bool) : List Nat := rows.map fun l => (brC l k).length
def movT (sz dr dl : Int) (df : Bool) (rows : List (List Gl)) (k : Bool) (b : Int) : TV :=
  .agg [.int sz, .int ((toW sz.toNat dr.toNat dl.toNat (lensW rows k) b).1 : Nat), .int ((toW sz.toNat dr.toNat dl.toNat (lensW rows k) b).2 : Nat), .bool df]
theorem below_full {w W : World} (h : Below w.heap.size w W) : Mem.le (full w) (full W) := fun g o hg => (h.block g (Array.getElem?_eq_some_iff.1 hg).1).trans hg
theorem GlobOk.le {Γ : CEnv} {gt : GT} {w W : World} (h : GlobOk Γ gt w) (hl : Mem.le (full w) (full W)) : GlobOk Γ gt W := fun g ag cs hm => ⟨(h g ag cs hm).1.mono hl, (h g ag cs hm).2⟩
theorem qio {w W : World} {x : Bool × List CT} {t : TV} {v : Value} (h : zwk w x t v) (hl : Mem.le (full w) (full W)) : zwk W x t v := by
  obtain ⟨ag, cs⟩ := x
  cases ag with
  | true =>
    have h' : ∃ vs : Array Value, v = .agg vs ∧ CellsT (full w) true cs t vs.toList := h
    obtain ⟨vs, e, k⟩ := h'
    exact show ∃ vs : Array Value, v = .agg vs ∧ CellsT (full W) true cs t vs.toList from ⟨vs, e, CellsT.mono hl k⟩
  | false =>
    have h' : ∃ ct, cs = [ct] ∧ RepT (full w) ct t v := h
    obtain ⟨ct, e, k⟩ := h'
    exact show ∃ ct, cs = [ct] ∧ RepT (full W) ct t v from ⟨ct, e, RepT.mono hl k⟩
theorem qin {w : World} {x y : Bool × List CT} {t u : TV} {v z : Value} (h : zwk w x t v) (k : zwk w y u z) : zn2 w [x, y] [t, u] [v, z] :=
  ⟨rfl, rfl, fun i a b c h1 h2 h3 => by
    match i, h1, h2, h3 with
    | 0, h1, h2, h3 => simp at h1 h2 h3; subst h1 h2 h3; exact h
    | 1, h1, h2, h3 => simp at h1 h2 h3; subst h1 h2 h3; exact k⟩
theorem ResC.len {B : Nat} {w : World} {G : Nat → Prop} {ag : Bool} {cs : List CT} {o : Option TypeId} {t : TV} {v : Value} (h : ResC B w G (.slice ag cs, o) t v) : ∃ a cap, v = .slice a t.asList.length cap := by
  have key : RepT (fresh w G B) (.slice ag cs) t v → ∃ a cap, v = .slice a t.asList.length cap := fun h => by
    cases h with
    | empty _ _ _ a cap h1 hn hm => exact ⟨a, cap, by rw [h1]; rfl⟩
    | slice _ _ _ g off cap => exact ⟨_, cap, rfl⟩
  cases o with
  | none => exact key h
  | some e =>
    obtain ⟨xs, ho, _⟩ := h
    rcases ho.2 with ⟨rfl, h0⟩ | ⟨g, cap, cur, rfl, _⟩
    · exact ⟨none, 0, by rw [h0]⟩
    · exact ⟨_, cap, rfl⟩
theorem ResRep.two {B : Nat} {w : World} {G : Nat → Prop} {x y : CT × Option TypeId} {t u : TV} {v : Value} (h : ResRep B w G [(true, [x, y])] (.agg [t, u]) v) : ∃ p q, v = .agg #[p, q] ∧ ResC B w G x t p ∧ ResC B w G y u q := by
  obtain ⟨vs, hv, hl, hs, _, hc, _⟩ := h
  match vs, hl with
  | [v'], _ =>
    have hs0 := hs 0 _ _ rfl rfl
    unfold zpe at hs0
    rw [if_pos rfl] at hs0
    obtain ⟨a, rfl, ha⟩ := hs0
    obtain ⟨p, q, e⟩ : ∃ p q, a = #[p, q] := by
      rcases a with ⟨l⟩
      match l, ha with
      | [p, q], _ => exact ⟨p, q, rfl⟩
    subst e
    exact ⟨p, q, hv, hc 0 _ _ rfl rfl, hc 1 _ _ rfl rfl⟩
theorem ResRep.int {B : Nat} {w : World} {G : Nat → Prop} {k : IntKind} {n : Int} {v : Value} (h : ResRep B w G [(false, [(.int k, none)])] (.int n) v) : v = .int k n := by
  obtain ⟨vs, hv, hl, hs, _, hc, _⟩ := h
  match vs, hl with
  | [v'], _ =>
    have := hc 0 _ _ rfl rfl
    have h2 : RepT (fresh w G B) (.int k) (.int n) v' := this
    cases h2
    exact hv
theorem ResRep.four {B : Nat} {w : World} {G : Nat → Prop} (a b c : Int) (d : Bool) :
    ResRep B w G [(true, [((.int .i64), none), ((.int .i64), none), ((.int .i64), none), (.bool, none)])] (.agg [.int a, .int b, .int c, .bool d]) (.agg #[.int .i64 a, .int .i64 b, .int .i64 c, .bool d]) := by
  refine ⟨[.agg #[.int .i64 a, .int .i64 b, .int .i64 c, .bool d]], rfl, rfl, fun i x u h1 h2 => ?_, rfl, fun i x u h1 h2 => ?_, List.nodup_nil⟩
  · match i, h1, h2 with
    | 0, h1, h2 => simp at h1 h2; subst h1 h2; exact ⟨_, rfl, rfl⟩
  · match i, h1, h2 with
    | 0, h1, h2 => cases h1; cases h2; exact RepT.int .i64 (.int a)
    | 1, h1, h2 => cases h1; cases h2; exact RepT.int .i64 (.int b)
    | 2, h1, h2 => cases h1; cases h2; exact RepT.int .i64 (.int c)
    | 3, h1, h2 => cases h1; cases h2; exact RepT.bool (.bool d)
theorem qil {w : World} {cs : List CT} {t : TV} {v : Value} (h : zwk w (true, cs) t v) : ∃ a : Array Value, v = .agg a ∧ a.size = cs.length ∧ ∀ c (hc : c < cs.length), ∃ u, a[c]? = some u ∧ RepT (full w) cs[c] (zbk true t c) u := by
  unfold zwk at h
  rw [if_pos rfl] at h
  obtain ⟨a, rfl, h1, h2⟩ := h
  exact ⟨a, rfl, by simpa using h1, fun c hc => by simpa using h2 c hc⟩
theorem arr4 {a : Array Value} (h : a.size = 4) : ∃ p q r s, a = #[p, q, r, s] := by
  rcases a with ⟨l⟩
  match l, h with
  | [p, q, r, s], _ => exact ⟨p, q, r, s, rfl⟩
theorem arr6 {a : Array Value} (h : a.size = 6) : ∃ p q r s t u, a = #[p, q, r, s, t, u] := by
  rcases a with ⟨l⟩
  match l, h with
  | [p, q, r, s, t, u], _ => exact ⟨p, q, r, s, t, u, rfl⟩
theorem toW_get {sz dr dl : Nat} {ns : List Nat} {b : Int} {x : Nat × Nat} (h : (winsW sz 0 ns)[(panI (offW sz ns) (nowW (min dr (ns.length - 1)) dl (winsW sz 0 ns)) b).toNat]? = some x) : toW sz dr dl ns b = x := by
  unfold toW
  rw [h]
  rfl
def pmovL : Law := ⟨fun ts => ∃ (sz : Int) (dr : Int) (dl : Int) (df : Bool) (w : Int) (h : Int) (rows : List (List Gl)) (r : Int) (c : Int) (vis : Bool) (sa : Int) (sb : Bool) (sc : Bool) (sd : Int) (sk : Bool) (sn : Int) (b : Int), ts = [.agg [.int sz, .int dr, .int dl, .bool df], .agg [.int w, .int h, rowsT rows, .int r, .int c, .bool vis], .agg [.int sa, .bool sb, .bool sc, .int sd, .bool sk, .int sn], .int b] ∧ (SmallV rows ∧ qhx sz dr dl w h rows r c = true), fun ts z₀ => ∀ (sz : Int) (dr : Int) (dl : Int) (df : Bool) (w : Int) (h : Int) (rows : List (List Gl)) (r : Int) (c : Int) (vis : Bool) (sa : Int) (sb : Bool) (sc : Bool) (sd : Int) (sk : Bool) (sn : Int) (b : Int), ts = [.agg [.int sz, .int dr, .int dl, .bool df], .agg [.int w, .int h, rowsT rows, .int r, .int c, .bool vis], .agg [.int sa, .bool sb, .bool sc, .int sd, .bool sk, .int sn], .int b] → z₀ = movT sz dr dl df rows sk b⟩
theorem pmov_pre {sz : Int} {dr : Int} {dl : Int} {df : Bool} {w : Int} {h : Int} {rows : List (List Gl)} {r : Int} {c : Int} {vis : Bool} {sa : Int} {sb : Bool} {sc : Bool} {sd : Int} {sk : Bool} {sn : Int} {b : Int} (h₀ : SmallV rows ∧ qhx sz dr dl w h rows r c = true) : pmovL.pre [.agg [.int sz, .int dr, .int dl, .bool df], .agg [.int w, .int h, rowsT rows, .int r, .int c, .bool vis], .agg [.int sa, .bool sb, .bool sc, .int sd, .bool sk, .int sn], .int b] := ⟨sz, dr, dl, df, w, h, rows, r, c, vis, sa, sb, sc, sd, sk, sn, b, rfl, h₀⟩
theorem pmov_fin {sz : Int} {dr : Int} {dl : Int} {df : Bool} {w : Int} {h : Int} {rows : List (List Gl)} {r : Int} {c : Int} {vis : Bool} {sa : Int} {sb : Bool} {sc : Bool} {sd : Int} {sk : Bool} {sn : Int} {b : Int} {z₀ : TV} (h₀ : z₀ = movT sz dr dl df rows sk b) : pmovL.post [.agg [.int sz, .int dr, .int dl, .bool df], .agg [.int w, .int h, rowsT rows, .int r, .int c, .bool vis], .agg [.int sa, .bool sb, .bool sc, .int sd, .bool sk, .int sn], .int b] z₀ := fun sz₁ dr₁ dl₁ df₁ w₁ h₁ rows₁ r₁ c₁ vis₁ sa₁ sb₁ sc₁ sd₁ sk₁ sn₁ b₁ e => by
  simp only [List.cons.injEq, TV.str.injEq, TV.int.injEq, TV.bool.injEq, TV.agg.injEq, TV.list.injEq, zat, and_true, true_and, and_assoc, rowsT_eq] at e; obtain ⟨rfl, rfl, rfl, rfl, rfl, rfl, rfl, rfl, rfl, rfl, rfl, rfl, rfl, rfl, rfl, rfl, rfl⟩ := e
  exact h₀
theorem pmov_all {sz : Int} {dr : Int} {dl : Int} {df : Bool} {w : Int} {h : Int} {rows : List (List Gl)} {r : Int} {c : Int} {vis : Bool} {sa : Int} {sb : Bool} {sc : Bool} {sd : Int} {sk : Bool} {sn : Int} {b : Int} {Q : TV → Prop} : (∀ z₀, pmovL.post [.agg [.int sz, .int dr, .int dl, .bool df], .agg [.int w, .int h, rowsT rows, .int r, .int c, .bool vis], .agg [.int sa, .bool sb, .bool sc, .int sd, .bool sk, .int sn], .int b] z₀ → Q z₀) ↔ Q (movT sz dr dl df rows sk b) := ⟨fun h₀ => h₀ _ (pmov_fin rfl), fun h₀ z₀ hr => by rw [hr _ _ _ _ _ _ _ _ _ _ _ _ _ _ _ _ _ rfl]; exact h₀⟩
theorem pmov_c (k : Nat) : Contract Tryd.prog (mkEnv globT []) gtabU (qc9 k) pmovL.pre pmovL.post := ⟨⟨Tryd.f50, Tryd.f50.body.getD .skip, Tryd.func50, by kernel_rfl, by kernel_rfl⟩, by
  rintro w0 ts vs hg ha ⟨sz, dr, dl, df, w, h, rows, r, c, vis, sa, sb, sc, sd, sk, sn, b, rfl, hs, hq⟩
  have P := properD_iff.1 hq
  have V := proper_view P.ck
  have a1 := P.s1; have a2 := P.s2; have a3 := P.d1; have a4 := P.d2; have a5 := P.l1; have a6 := P.l2
  have b1 := V.h1; have b2 := V.h2; have b3 := V.len
  obtain ⟨v1, vs1, e1, hD, ha⟩ := zcl ha
  obtain ⟨v2, vs2, rfl, hV, ha⟩ := zcl ha
  obtain ⟨v3, vs3, rfl, hS, ha⟩ := zcl ha
  obtain ⟨v4, vs4, rfl, hb, ha⟩ := zcl ha
  obtain ⟨_, rfl⟩ := zgh ha
  obtain rfl : vs = #[v1, v2, v3, v4] := by
    rcases vs with ⟨l⟩
    exact congrArg List.toArray e1
  clear e1 ha
  obtain rfl := argRep_int hb
  obtain ⟨dd, rfl, hdl, hdc⟩ := qil hD
  obtain ⟨d0, d1, d2, d3, rfl⟩ := arr4 hdl
  obtain ⟨vv, rfl, hvl, hvc⟩ := qil hV
  obtain ⟨x0, x1, x2, x3, x4, x5, rfl⟩ := arr6 hvl
  obtain ⟨ss, rfl, hsl, _⟩ := qil hS
  obtain ⟨s0, s1, s2, s3, s4, s5, rfl⟩ := arr6 hsl
  obtain rfl : d0 = .int .i64 sz := by
    obtain ⟨u, e, hu⟩ := hdc 0 (by decide); cases e; cases hu; rfl
  obtain rfl : d1 = .int .i64 dr := by
    obtain ⟨u, e, hu⟩ := hdc 1 (by decide); cases e; cases hu; rfl
  obtain rfl : d2 = .int .i64 dl := by
    obtain ⟨u, e, hu⟩ := hdc 2 (by decide); cases e; cases hu; rfl
  obtain rfl : d3 = .bool df := by
    obtain ⟨u, e, hu⟩ := hdc 3 (by decide); cases e; cases hu; rfl
  have hx2 : RepT (full w0) (.slice false [.slice true [.str, .bool, .int .i64]]) (rowsT rows) x2 := by
    obtain ⟨u, e, hu⟩ := hvc 2 (by decide); cases e; exact hu
  have hlr : (rowsT rows).asList.length = rows.length := by simp [rowsT, TV.asList]
  obtain ⟨sz, rfl⟩ : ∃ n : Nat, sz = n := ⟨sz.toNat, by omega⟩
  obtain ⟨dr, rfl⟩ : ∃ n : Nat, dr = n := ⟨dr.toNat, by omega⟩
  obtain ⟨dl, rfl⟩ : ∃ n : Nat, dl = n := ⟨dl.toNat, by omega⟩
  have hns : ∀ k ∈ lensW rows sk, k ≤ 10000 := fun k hk => by
    obtain ⟨l, hl, rfl⟩ := List.mem_map.1 hk
    have := br28 (V.rows l hl).1 sk
    have := (hs.2 l hl).1
    omega
  have hll : (lensW rows sk).length = rows.length := by simp [lensW]
  generalize hrt : rowsT rows = RT at hx2
  cases hx2 with
  | empty _ _ _ a cap he _ _ =>
    rw [← hrt] at he
    have := congrArg List.length he
    rw [hlr, List.length_nil] at this
    omega
  | slice _ _ _ g off cap cur el fr vals hM hcap hmax hc hr =>
  subst hrt
  rw [hlr] at hV
  have hcell : ∀ i, i < rows.length → w0.cell? ⟨g, off + i, none⟩ = some (vals i 0) := fun i hi => by
    have := hc i (by omega) 0 (by simp)
    simp only [List.length_cons, List.length_nil, Nat.zero_add, Nat.mul_one, Nat.add_zero] at this
    simp [World.cell?, show w0.heap[g]? = _ from hM, this]
  have key := moved_in 4 (Nat.le_refl _) g off rows.length cap sz dr dl df (min dr ((lensW rows sk).length - 1)) b x0 x1 x3 x4 x5 s0 s1 s2 s3 s4 s5 (lensW rows sk) (fun i => vals i 0) hll (by omega) (by have := hs.1; omega) (by omega) (by omega) hns w0 (Array.getElem?_eq_some_iff.1 hM).1
    (fun i hi W' hB => by
      have hle := below_full hB
      have hmem : rr rows i ∈ rows := rr_mem hi
      have hsr := hs.2 _ hmem
      have hwd := qh5 hsr
      have hlen := hsr.1
      have hri : zwk W' (false, [.slice true [.str, .bool, .int .i64]]) (glsT (rr rows i)) (vals i 0) := by
        refine ⟨_, rfl, RepT.mono hle ?_⟩
        have h2 := hr i (by omega) 0 (by simp)
        have e : (rowsT rows).asList[i]'(by omega) = glsT (rr rows i) := by
          have := qbv (l := rows) (i := i) hi
          rw [List.getD_eq_getElem?_getD] at this
          simp only [rowsT, TV.asList] at *
          rw [List.getElem?_eq_getElem (by simpa using hi)] at this
          exact this
        rw [e] at h2
        exact h2
      refine (((of_c 0).gt za3).calls W' _ #[vals i 0, .agg #[s0, s1, s2, s3, s4, s5]] (GlobOk.le hg hle) (qin hri (qio hS hle)) (ztp (l := rr rows i) (a := sa) (b := sb) (c := sc) (d := sd) (k := sk) (n := sn) ⟨by omega, by omega⟩)).mono ?_
      rintro e W2 ⟨r', v, G', rfl, hpost, hB2, _, hres⟩
      obtain rfl := hpost _ _ _ _ _ _ _ rfl
      obtain ⟨p, q, rfl, hp, _⟩ := ResRep.two hres
      obtain ⟨a, cap, rfl⟩ := hp.len
      refine ⟨a, cap, q, ?_, hB2⟩
      have e : (ints (brC (rr rows i) sk)).asList.length = (lensW rows sk).getD i 0 := by
        rw [ints, TV.asList, List.length_map, lensW, List.getD_eq_getElem?_getD, List.getElem?_map, rr, List.getD_eq_getElem?_getD, List.getElem?_eq_getElem hi]
        rfl
      rw [e])
    (fun W' hB => by
      have hle := below_full hB
      refine ((pcur_c 0).calls W' _ #[.agg #[.int .i64 (sz : Int), .int .i64 (dr : Int), .int .i64 (dl : Int), .bool df], .agg #[x0, x1, .slice (some ⟨g, off, none⟩) rows.length cap, x3, x4, x5]] (GlobOk.le hg hle) (qin (qio hD hle) (qio hV hle)) (pcur_pre (sz := (sz : Int)) (dr := (dr : Int)) (dl := (dl : Int)) (df := df) (w := w) (h := h) (rows := rows) (r := r) (c := c) (vis := vis) ⟨by omega, by omega⟩)).mono ?_
      rintro e W2 ⟨r', v, G', rfl, hpost, hB2, _, hres⟩
      obtain rfl := hpost _ _ _ _ _ _ _ _ _ _ rfl
      obtain rfl := ResRep.int hres
      refine ⟨?_, hB2⟩
      rw [hll, show min (dr : Int) (h - 1) = ((min dr (rows.length - 1) : Nat) : Int) by omega])
    (fun i hi => hcell i hi)
  refine (callsIn_wide.1 (by rw [hlr]; exact key)).mono ?_
  rintro e W' ⟨⟨x, hx, rfl⟩, hB⟩
  have hx' := toW_get hx
  refine ⟨movT sz dr dl df rows sk b, _, fun _ => False, rfl, pmov_fin rfl, hB, fun g hg => hg.elim, ?_⟩
  unfold movT
  simp only [Int.toNat_natCast, hx']
  exact ResRep.four _ _ _ _⟩
end Go.Proofs.YtlhagkbhojmjpaaDoor

