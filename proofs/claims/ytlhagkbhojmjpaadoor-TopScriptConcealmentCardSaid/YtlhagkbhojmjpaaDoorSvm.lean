/- Package scriptvm: the machine's small methods, walked by hand. -/
import Derived.Test.YtlhagkbhojmjpaaDoorGl
import Derived.RangeFuncNested
import Derived.RangeFuncBound
import Derived.RangeFuncCalls
import Derived.RangeFuncLeaves
import Derived.Shelf.Abstract
import Derived.Shelf.RegionOpen
import Derived.WalkKit
import Derived.OwnWalkIn
import Derived.TacticsInMore
import Derived.LoopNIn
import Derived.LoopIn
import Derived.Maps.AppendAt
import Derived.Maps.OwnIn
import Derived.Stop.RegionWithIn
namespace Go.Proofs.YtlhagkbhojmjpaaDoor
set_option linter.unusedSimpArgs false
set_option linter.unusedVariables false
section
open Go.RowKit Go.Shelf

structure Mch where
  row : Int
  gl : Value
  cls : Int
  wt : Int
  rul : Int
  st : List Int
  dp : Nat
  fl : Bool
def Mch.cells (m : Mch) : List Value := [.int .i64 m.row, m.gl, .int .i64 m.cls, .int .i64 m.wt, .int .i64 m.rul] ++ (m.st.map fun z => Value.int .i64 z) ++ [.int .i64 (m.dp : Nat), .bool m.fl]
structure IsM (W : World) (B : Nat) (m : Mch) : Prop where
  h : W.heap[B]? = some (.cells m.cells.toArray 95 (0, 0))
  s : m.st.length = 16
  d : m.dp ≤ 16
theorem Mch.cells_len {m : Mch} (h : m.st.length = 16) : m.cells.length = 23 := by simp [Mch.cells, h]
theorem IsM.cell {W : World} {B : Nat} {m : Mch} (h : IsM W B m) (i : Nat) {v : Value} (hv : m.cells[i]? = some v) : W.cell? ⟨B, i, none⟩ = some v := by
  simp [World.cell?, h.h, hv]
theorem IsM.frozen {W : World} {B : Nat} {m : Mch} (h : IsM W B m) (i : Nat) : W.frozen? ⟨B, i, none⟩ = false := by
  simp [World.frozen?, h.h]
theorem IsM.lt {W : World} {B : Nat} {m : Mch} (h : IsM W B m) : B < W.heap.size := (Array.getElem?_eq_some_iff.1 h.h).1
theorem Mch.get_st {m : Mch} (h : m.st.length = 16) {k : Nat} (hk : k < 16) : m.cells[5 + k]? = some (.int .i64 (m.st.getD k 0)) := by
  unfold Mch.cells
  rw [List.getElem?_append_left (by simp [h]; omega), List.getElem?_append_right (by simp)]
  simp only [List.length_cons, List.length_nil, List.getElem?_map]
  rw [show 5 + k - (0 + 1 + 1 + 1 + 1 + 1) = k by omega, List.getD_eq_getElem?_getD, List.getElem?_eq_getElem (by omega)]
  rfl
theorem Mch.get_dp {m : Mch} (h : m.st.length = 16) : m.cells[21]? = some (.int .i64 (m.dp : Nat)) := by
  unfold Mch.cells
  rw [List.getElem?_append_right (by simp [h])]
  simp [h]
theorem Mch.get_fl {m : Mch} (h : m.st.length = 16) : m.cells[22]? = some (.bool m.fl) := by
  unfold Mch.cells
  rw [List.getElem?_append_right (by simp [h])]
  simp [h]
theorem heap_put {W : World} {B : Nat} {cs : Array Value} {t : TypeId} (h : W.heap[B]? = some (.cells cs t (0, 0))) (j : Nat) (u : Value) : (W.setCell ⟨B, j, none⟩ u).heap[B]? = some (.cells (cs.setIfInBounds j u) t (0, 0)) := by
  obtain ⟨hlt, hk⟩ := Array.getElem?_eq_some_iff.1 h
  show (W.heap.modify B _)[B]? = _
  rw [Array.getElem?_eq_getElem (by rw [Array.size_modify]; exact hlt), Array.getElem_modify_self, hk]
  rfl
theorem grown_put (W : World) (B j : Nat) (u : Value) : W.grownBy (W.setCell ⟨B, j, none⟩ u) (some B) :=
  ⟨rfl, rfl, rfl, by simp [World.setCell], fun k hk hne => Below.heap_setCell W ⟨B, j, none⟩ u k (fun e => hne (by rw [e]))⟩
theorem grown_trans {A B C : World} {r : Option Nat} (h : A.grownBy B r) (k : B.grownBy C r) : A.grownBy C r :=
  ⟨k.os.trans h.os, k.tape.trans h.tape, k.output.trans h.output, Nat.le_trans h.size k.size, fun i hi hne => (k.block i (Nat.lt_of_lt_of_le hi h.size) hne).trans (h.block i hi hne)⟩
theorem grown_drew {W W' : World} {r : Option Nat} (h : W.grownBy W' r) : W.grownBy W'.drew r := ⟨h.os, h.tape, h.output, h.size, h.block⟩
theorem IsM.put {W : World} {B : Nat} {m m' : Mch} (h : IsM W B m) (j : Nat) (u : Value) (e : m.cells.set j u = m'.cells) (s : m'.st.length = 16) (d : m'.dp ≤ 16) : IsM (W.setCell ⟨B, j, none⟩ u) B m' := by
  refine ⟨?_, s, d⟩
  rw [heap_put h.h, List.setIfInBounds_toArray, e]
theorem Mch.set_fl {m : Mch} (h : m.st.length = 16) (b : Bool) : m.cells.set 22 (.bool b) = { m with fl := b }.cells := by
  unfold Mch.cells
  rw [List.set_append_right _ _ (by simp [h])]
  simp [h]
theorem Mch.set_dp {m : Mch} (h : m.st.length = 16) (d : Nat) : m.cells.set 21 (.int .i64 (d : Nat)) = { m with dp := d }.cells := by
  unfold Mch.cells
  rw [List.set_append_right _ _ (by simp [h])]
  simp [h]
theorem Mch.set_st {m : Mch} (h : m.st.length = 16) {k : Nat} (hk : k < 16) (z : Int) : m.cells.set (5 + k) (.int .i64 z) = { m with st := m.st.set k z }.cells := by
  unfold Mch.cells
  rw [List.set_append_left _ _ (by simp [h]; omega), List.set_append_right _ _ (by simp)]
  simp only [List.length_cons, List.length_nil]
  rw [show 5 + k - (0 + 1 + 1 + 1 + 1 + 1) = k by omega, ← List.map_set]

def popV (m : Mch) : Int := if m.dp = 0 then 0 else m.st.getD (m.dp - 1) 0
def popS (m : Mch) : Mch := if m.dp = 0 then { m with fl := true } else { m with dp := m.dp - 1 }
theorem pop_in (W : World) (B : Nat) (m : Mch) (h : IsM W B m) :
    Calls Tryd.prog 29 #[.pointer (some ⟨B, 0, none⟩)] W fun e W' => e = .returned (.int .i64 (popV m)) ∧ IsM W' B (popS m) ∧ W.grownBy W' (some B) := by
  refine (callsIn_wide (n := 8)).1 ?_
  refine callsIn_of_wp Tryd.func29 rfl trivial ?_ rfl
  simp only [Tryd.ntmps29, List.size_toArray, List.length_cons, List.length_nil, Nat.reduceAdd, Nat.reduceSub, Array.replicate_succ, Array.replicate_zero, List.push_toArray, List.append_toArray, List.nil_append, List.cons_append]
  have c21 := h.cell 21 (Mch.get_dp h.s)
  have c22 := h.cell 22 (Mch.get_fl h.s)
  have f21 := h.frozen 21
  have f22 := h.frozen 22
  have hd := h.d
  by_cases h0 : m.dp = 0
  · have ep : popV m = 0 := if_pos h0
    have es : popS m = { m with fl := true } := if_pos h0
    have hn := h.put (m' := { m with fl := true }) 22 (.bool true) (Mch.set_fl h.s true) h.s h.d
    rw [h0] at c21
    rw [ep, es]
    gi_wp2
    go_ret
    exact ⟨rfl, hn, grown_put _ _ _ _⟩
  · have ep : popV m = m.st.getD (m.dp - 1) 0 := if_neg h0
    have es : popS m = { m with dp := m.dp - 1 } := if_neg h0
    have e1 : (m.dp : Int) - 1 = ((m.dp - 1 : Nat) : Int) := by omega
    have hn := h.put (m' := { m with dp := m.dp - 1 }) 21 (.int .i64 ((m.dp - 1 : Nat) : Int)) (Mch.set_dp h.s _) h.s (by show m.dp - 1 ≤ 16; omega)
    rw [ep, es]
    gi_wp2
    obtain ⟨W2, hW2⟩ : ∃ W2, W.setCell ⟨B, 21, none⟩ (.int .i64 ((m.dp - 1 : Nat) : Int)) = W2 := ⟨_, rfl⟩
    have hg : W.grownBy W2 (some B) := by rw [← hW2]; exact grown_put _ _ _ _
    rw [hW2] at hn ⊢
    clear c21 c22 f21 f22 h
    have c21 := hn.cell 21 (Mch.get_dp hn.s)
    have ck := hn.cell (5 + (m.dp - 1)) (Mch.get_st hn.s (by omega))
    dsimp only at c21 ck
    gi_region
    gi_wp2
    go_ret
    exact ⟨by simp, ⟨hn.h, hn.s, hn.d⟩, grown_drew hg⟩

def limZ (z : Int) : Int := max (-999999999) (min z 999999999)
theorem limited_in (W : World) (z : Int) : Calls Tryd.prog 106 #[.int .i64 z] W fun e W' => e = .returned (.int .i64 (limZ z)) ∧ W' = W := by
  refine (callsIn_wide (n := 8)).1 ?_
  refine callsIn_of_wp Tryd.func106 rfl trivial ?_ rfl
  simp only [Tryd.ntmps106, List.size_toArray, List.length_cons, List.length_nil, Nat.reduceAdd, Nat.reduceSub, Array.replicate_succ, Array.replicate_zero, List.push_toArray, List.append_toArray, List.nil_append, List.cons_append]
  gi_wp2_with fail
  go_ret
  exact ⟨rfl, rfl⟩
def pushS (m : Mch) (z : Int) : Mch := if m.dp = 16 then { m with fl := true } else { m with st := m.st.set m.dp (limZ z), dp := m.dp + 1 }
theorem push_in (W : World) (B : Nat) (m : Mch) (z : Int) (h : IsM W B m) :
    Calls Tryd.prog 61 #[.pointer (some ⟨B, 0, none⟩), .int .i64 z] W fun e W' => (∃ v, e = .returned v) ∧ IsM W' B (pushS m z) ∧ W.grownBy W' (some B) := by
  refine (callsIn_wide (n := 8)).1 ?_
  refine callsIn_of_wp Tryd.func61 rfl trivial ?_ rfl
  simp only [Tryd.ntmps61, List.size_toArray, List.length_cons, List.length_nil, Nat.reduceAdd, Nat.reduceSub, Array.replicate_succ, Array.replicate_zero, List.push_toArray, List.append_toArray, List.nil_append, List.cons_append]
  have c21 := h.cell 21 (Mch.get_dp h.s)
  have c22 := h.cell 22 (Mch.get_fl h.s)
  have f21 := h.frozen 21
  have f22 := h.frozen 22
  have hd := h.d
  by_cases h0 : m.dp = 16
  · have es : pushS m z = { m with fl := true } := if_pos h0
    have hn := h.put (m' := { m with fl := true }) 22 (.bool true) (Mch.set_fl h.s true) h.s h.d
    rw [h0] at c21
    rw [es]
    gi_wp2
    refine bodyPost_ret (results_none rfl _ _ _) rfl ?_
    exact ⟨⟨_, rfl⟩, hn, grown_put _ _ _ _⟩
  · have es : pushS m z = { m with st := m.st.set m.dp (limZ z), dp := m.dp + 1 } := if_neg h0
    have ck := h.cell (5 + m.dp) (Mch.get_st h.s (by omega))
    have fk := h.frozen (5 + m.dp)
    have hn := h.put (m' := { m with st := m.st.set m.dp (limZ z) }) (5 + m.dp) (.int .i64 (limZ z)) (Mch.set_st h.s (by omega) _) (by simp [h.s]) h.d
    rw [es]
    gi_wp2
    gi_region_with (refine ⟨trivial, ?_⟩; gi_at_call 106; refine (callsIn_wide.2 (limited_in _ _)).mono ?_; rintro e w' ⟨rfl, rfl⟩)
    all_goals
      have hn1 : IsM (W.setCell ⟨B, 5 + m.dp, none⟩ (.int .i64 (limZ z))).drew B { m with st := m.st.set m.dp (limZ z) } := ⟨hn.h, hn.s, hn.d⟩
      have hg1 := grown_drew (grown_put W B (5 + m.dp) (.int .i64 (limZ z)))
      generalize (W.setCell ⟨B, 5 + m.dp, none⟩ (.int .i64 (limZ z))).drew = W2 at hn1 hg1 ⊢
      clear c21 c22 f21 f22 ck fk h hn
      have c21 := hn1.cell 21 (Mch.get_dp hn1.s)
      have f21 := hn1.frozen 21
      dsimp only at c21
      obtain ⟨d1, hd1⟩ : ∃ d1 : Nat, m.dp + 1 = d1 := ⟨_, rfl⟩
      have e1 : (m.dp : Int) + 1 = (d1 : Int) := by omega
      have hn2 := hn1.put (m' := { m with st := m.st.set m.dp (limZ z), dp := d1 }) 21 (.int .i64 (d1 : Int)) (Mch.set_dp hn1.s _) hn1.s (by show d1 ≤ 16; omega)
      have hg2 := grown_put W2 B 21 (.int .i64 (d1 : Int))
      gi_wp2
      go_end0
      rw [hd1]
      exact ⟨⟨_, rfl⟩, hn2, grown_trans hg1 hg2⟩

theorem truth_in (W : World) (b : Bool) : Calls Tryd.prog 64 #[.bool b] W fun e W' => e = .returned (.int .i64 (if b = true then 1 else 0)) ∧ W' = W := by
  refine (callsIn_wide (n := 8)).1 ?_
  refine callsIn_of_wp Tryd.func64 rfl trivial ?_ rfl
  simp only [Tryd.ntmps64, List.size_toArray, List.length_cons, List.length_nil, Nat.reduceAdd, Nat.reduceSub, Array.replicate_succ, Array.replicate_zero, List.push_toArray, List.append_toArray, List.nil_append, List.cons_append]
  cases b
  · gi_wp2
    go_ret
    exact ⟨rfl, rfl⟩
  · gi_wp2
    go_ret
    exact ⟨rfl, rfl⟩
def glC (g : Gl) : Nat → Value := fun j => if j = 0 then .string ⟨g.s.toArray⟩ else if j = 1 then .bool g.w else .int .i64 g.y
def GRow (l : List Gl) (v : Value) (W : World) : Prop := l.length ≤ 1000000 ∧ ((l.length = 0 ∧ ∃ a cap, v = .slice a 0 cap) ∨ ∃ b off cap, v = .slice (some ⟨b, off, none⟩) l.length cap ∧ b < W.heap.size ∧ ∀ i, i < l.length → ∀ j, j < 3 → W.cell? ⟨b, off + i * 3 + j, none⟩ = some (glC (gg l i) j))
theorem GRow.below {l : List Gl} {v : Value} {W W' : World} (h : GRow l v W) (k : Below W.heap.size W W') : GRow l v W' := by
  refine ⟨h.1, ?_⟩
  rcases h.2 with h0 | ⟨b, off, cap, e, hb, hc⟩
  · exact .inl h0
  · refine .inr ⟨b, off, cap, e, Nat.lt_of_lt_of_le hb k.size, fun i hi j hj => ?_⟩
    rw [World.cell?_of_block (k.block b hb)]
    exact hc i hi j hj
def glyZ (l : List Gl) (i : Int) : Gl := if 0 ≤ i ∧ i < l.length then gg l i.toNat else ⟨[], false, 0⟩
set_option maxRecDepth 100000 in
theorem glyph_in (W : World) (B : Nat) (m : Mch) (l : List Gl) (i : Int) (h : IsM W B m) (hg : GRow l m.gl W) :
    Calls Tryd.prog 63 #[.pointer (some ⟨B, 0, none⟩), .int .i64 i] W fun e W' => e = .returned (.tuple #[.agg #[.string ⟨(glyZ l i).s.toArray⟩, .bool (glyZ l i).w, .int .i64 (glyZ l i).y], .bool (decide (0 ≤ i ∧ i < l.length))]) ∧ W.grownBy W' none := by
  refine (callsIn_wide (n := 8)).1 ?_
  refine callsIn_of_wp Tryd.func63 rfl trivial ?_ rfl
  simp only [Tryd.ntmps63, List.size_toArray, List.length_cons, List.length_nil, Nat.reduceAdd, Nat.reduceSub, Array.replicate_succ, Array.replicate_zero, List.push_toArray, List.append_toArray, List.nil_append, List.cons_append]
  have c1 := h.cell 1 (v := m.gl) rfl
  have hlt := h.lt
  by_cases hi : 0 ≤ i ∧ i < l.length
  · obtain ⟨k, rfl⟩ : ∃ k : Nat, i = k := ⟨i.toNat, by omega⟩
    have ea : glyZ l (k : Int) = gg l k := by unfold glyZ; rw [if_pos hi, Int.toNat_natCast]
    rw [ea, decide_eq_true hi]
    obtain ⟨h9, ⟨h0, _⟩ | ⟨b, off, cap, e, hb, hc⟩⟩ := hg
    · omega
    · have hk : k < l.length := by omega
      have k0 : W.cell? ⟨b, off + k * 3, none⟩ = some (.string ⟨(gg l k).s.toArray⟩) := hc k hk 0 (by omega)
      have k1 : W.cell? ⟨b, off + k * 3 + 1, none⟩ = some (.bool (gg l k).w) := hc k hk 1 (by omega)
      have k2 : W.cell? ⟨b, off + k * 3 + 2, none⟩ = some (.int .i64 (gg l k).y) := hc k hk 2 (by omega)
      rw [e] at c1
      have n1 : ¬ l.length ≤ k := by omega
      have n2 : ¬ b = W.heap.size := by omega
      have n3 : ¬ B = W.heap.size := by omega
      generalize gg l k = gl at *
      generalize l.length = nl at *
      clear hc e h hi ea
      gi_wp2
      exact ⟨rfl, .tuple #[.agg #[.string ⟨gl.s.toArray⟩, .bool gl.w, .int .i64 gl.y], .bool true], by simp [results, Tryd.f63, go_sem], rfl, World.grownBy_alloc W _ none⟩
  · have ea : glyZ l i = ⟨[], false, 0⟩ := if_neg hi
    rw [ea, decide_eq_false hi]
    have n3 : ¬ B = W.heap.size := by omega
    by_cases hi0 : i < 0
    · clear h hi ea hg
      gi_wp2
      exact ⟨rfl, .tuple #[.agg #[.string ⟨#[]⟩, .bool false, .int .i64 0], .bool false], by simp [results, Tryd.f63, go_sem], rfl, World.grownBy_alloc W _ none⟩
    · obtain ⟨k, rfl⟩ : ∃ k : Nat, i = k := ⟨i.toNat, by omega⟩
      have n1 : l.length ≤ k := by omega
      obtain ⟨h9, ⟨h0, a, cap, e⟩ | ⟨b, off, cap, e, hb, hc⟩⟩ := hg
      · rw [e] at c1
        clear h hi ea
        gi_wp2
        exact ⟨rfl, .tuple #[.agg #[.string ⟨#[]⟩, .bool false, .int .i64 0], .bool false], by simp [results, Tryd.f63, go_sem], rfl, World.grownBy_alloc W _ none⟩
      · rw [e] at c1
        clear h hi ea hc
        gi_wp2
        exact ⟨rfl, .tuple #[.agg #[.string ⟨#[]⟩, .bool false, .int .i64 0], .bool false], by simp [results, Tryd.f63, go_sem], rfl, World.grownBy_alloc W _ none⟩

def insV (op arg : Int) : Value := .agg #[.int .i64 op, .int .i64 arg]
def valZ (m : Mch) (l : List Gl) (op arg : Int) : Option Int := if op = 1 then some arg else if op = 2 then some m.row else if op = 3 then some l.length else if op = 6 then some m.cls else if op = 7 then some m.wt else none
theorem kept_alloc {W W' : World} {o : Obj} {r : Option Nat} (h : (W.alloc o).grownBy W' r) : W.grownBy W' r := by
  refine ⟨h.os, h.tape, h.output, by have := h.size; simp at this; omega, fun k hk hne => (h.block k (by simp; omega) hne).trans (Below.heap_alloc W o k hk)⟩
theorem IsM.alloc {W : World} {B : Nat} {m : Mch} (h : IsM W B m) (o : Obj) : IsM (W.alloc o) B m := ⟨(Below.heap_alloc W o B h.lt).trans h.h, h.s, h.d⟩
set_option maxRecDepth 100000 in
theorem value_in (W : World) (B : Nat) (m : Mch) (l : List Gl) (op arg : Int) (h : IsM W B m) (hg : GRow l m.gl W) :
    Calls Tryd.prog 59 #[.pointer (some ⟨B, 0, none⟩), insV op arg] W fun e W' =>
      e = .returned (.bool (valZ m l op arg).isSome) ∧ IsM W' B ((valZ m l op arg).elim m (pushS m)) ∧ W.grownBy W' (some B) := by
  refine (callsIn_wide (n := 8)).1 ?_
  refine callsIn_of_wp Tryd.func59 rfl trivial ?_ rfl
  unfold insV
  simp only [Tryd.ntmps59, List.size_toArray, List.length_cons, List.length_nil, Nat.reduceAdd, Nat.reduceSub, Array.replicate_succ, Array.replicate_zero, List.push_toArray, List.append_toArray, List.nil_append, List.cons_append]
  have hlt := h.lt
  have n3 : ¬ B = W.heap.size := by omega
  have c0 := h.cell 0 (v := .int .i64 m.row) rfl
  have c1 := h.cell 1 (v := m.gl) rfl
  have c2 := h.cell 2 (v := .int .i64 m.cls) rfl
  have c3 := h.cell 3 (v := .int .i64 m.wt) rfl
  have hp := fun o z => push_in (W.alloc o) B m z (h.alloc o)
  by_cases o1 : op = 1
  · subst o1
    clear hg c1
    gi_wp2_with (refine ⟨trivial, ?_⟩; gi_at_call 61; refine (callsIn_wide.2 (hp _ _)).mono ?_; rintro e w' ⟨⟨v, rfl⟩, hm, hgr⟩)
    go_ret
    exact ⟨rfl, hm, kept_alloc hgr⟩
  by_cases o2 : op = 2
  · subst o2
    clear hg c1
    gi_wp2_with (refine ⟨trivial, ?_⟩; gi_at_call 61; refine (callsIn_wide.2 (hp _ _)).mono ?_; rintro e w' ⟨⟨v, rfl⟩, hm, hgr⟩)
    go_ret
    exact ⟨rfl, hm, kept_alloc hgr⟩
  by_cases o3 : op = 3
  · subst o3
    obtain ⟨h9, ⟨h0, a, cap, e⟩ | ⟨b, off, cap, e, hb, hc⟩⟩ := hg
    · rw [e] at c1
      gi_wp2_with (refine ⟨trivial, ?_⟩; gi_at_call 61; refine (callsIn_wide.2 (hp _ _)).mono ?_; rintro e w' ⟨⟨v, rfl⟩, hm, hgr⟩)
      go_ret
      rw [show (0 : Int) = (l.length : Int) by omega] at hm
      exact ⟨rfl, hm, kept_alloc hgr⟩
    · rw [e] at c1
      clear hc
      gi_wp2_with (refine ⟨trivial, ?_⟩; gi_at_call 61; refine (callsIn_wide.2 (hp _ _)).mono ?_; rintro e w' ⟨⟨v, rfl⟩, hm, hgr⟩)
      go_ret
      exact ⟨rfl, hm, kept_alloc hgr⟩
  by_cases o6 : op = 6
  · subst o6
    clear hg c1
    gi_wp2_with (refine ⟨trivial, ?_⟩; gi_at_call 61; refine (callsIn_wide.2 (hp _ _)).mono ?_; rintro e w' ⟨⟨v, rfl⟩, hm, hgr⟩)
    go_ret
    exact ⟨rfl, hm, kept_alloc hgr⟩
  by_cases o7 : op = 7
  · subst o7
    clear hg c1
    gi_wp2_with (refine ⟨trivial, ?_⟩; gi_at_call 61; refine (callsIn_wide.2 (hp _ _)).mono ?_; rintro e w' ⟨⟨v, rfl⟩, hm, hgr⟩)
    go_ret
    exact ⟨rfl, hm, kept_alloc hgr⟩
  have ev : valZ m l op arg = none := by unfold valZ; rw [if_neg o1, if_neg o2, if_neg o3, if_neg o6, if_neg o7]
  rw [ev]
  clear hg c1
  gi_wp2_with fail
  go_ret
  exact ⟨rfl, h.alloc _, kept_alloc ⟨rfl, rfl, rfl, Nat.le_refl _, fun _ _ _ => rfl⟩⟩
end
end Go.Proofs.YtlhagkbhojmjpaaDoor
