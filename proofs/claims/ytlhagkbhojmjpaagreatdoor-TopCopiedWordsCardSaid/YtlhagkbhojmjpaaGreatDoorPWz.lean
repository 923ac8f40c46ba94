/- Written by this repo's own program out of its texts. -/
import Derived.Test.YtlhagkbhojmjpaaGreatDoorPWx
import Derived.RangeFuncNested
import Derived.RangeFuncBound
import Derived.RangeFuncCalls
import Derived.RangeFuncLeaves
import Derived.Shelf.Abstract
import Derived.Shelf.RegionOpen
import Derived.WalkKit
import Derived.OwnWalkIn
import Derived.TacticsInMore
import Derived.LoopNIn
import Derived.LoopIn
import Derived.Maps.AppendAt
import Derived.Stop.RegionWithIn
set_option linter.unusedSimpArgs false
set_option linter.unusedVariables false
set_option linter.unusedSectionVars false
set_option linter.unnecessarySimpa false
namespace Go.Proofs.YtlhagkbhojmjpaaGreatDoor
section
open Go.RowKit Go.Shelf
attribute [local go_sem] Oper.semAt_some
section
variable {P : Program} {ops : Array Oper} {Q : Exit → Act → World → Prop} {S : World → Prop} {R : Act → World → Prop} {i : Nat} {rest x : Plan} {oi : Oper} {a : Act} {w : World}
theorem mx_v {v : Value} (hi : ops[i]? = some oi) (hw : Region.wanted oi (yielded ops a.tmps) = true) (hQ : ∀ c a w, Q (.panic c) (a.put oi.dst v) w → Q (.panic c) a w) (hv : ∀ w, S w → (execOp a.eval oi).run P w = .ok (.value v) w)
  (h : wpMix P ops S Q R rest (a.put oi.dst v) w) : wpMix P ops S Q R (.op true i rest) a w := ⟨oi, v, hi, hQ, .inl ⟨hw, fun w hS => .inl (hv w hS)⟩, h⟩
theorem wpOp_run {K : Act → World → Prop} (hi : ops[i]? = some oi) (hw : Region.wanted oi (yielded ops a.tmps) = true) (h : ∀ K' : Act → World → Prop, (∀ a w, K a w → K' a w) → oi.wp P a w K' Q) : wpOp P ops Q i K a w := by
 unfold Go.wpOp
 simp only [hi, hw, if_true]
 exact .inl (h K fun _ _ h => h)
theorem mx_run (hi : ops[i]? = some oi) (hw : Region.wanted oi (yielded ops a.tmps) = true) (h : ∀ K' : Act → World → Prop, (∀ a w, S w ∧ wpMix P ops S Q R rest a w → K' a w) → oi.wp P a w K' Q) : wpMix P ops S Q R (.op false i rest) a w := wpOp_run hi hw h
end
def OnlyN (R : Act → World → Prop) : Exit → Act → World → Prop
 | .normal, a, w => R a w
 | _, _, _ => False
theorem only_mono {R : Act → World → Prop} {Q : Exit → Act → World → Prop} (h : ∀ a w, R a w → Q .normal a w) : ∀ e a w, OnlyN R e a w → Q e a w := by
 intro e a w
 cases e <;> first | exact h a w | (intro h; exact h.elim)
def GlRow (W : World) (v : Value) (l : List Gl) : Prop := ∃ a cap, v = .slice a l.length cap ∧ (l ≠ [] → ∃ b off, a = some ⟨b, off, none⟩ ∧ b < W.heap.size ∧ ∀ i, i < l.length → W.cell? ⟨b, off + i * 3, none⟩ = some (.string ⟨(gg l i).s.toArray⟩) ∧ W.cell? ⟨b, off + i * 3 + 1, none⟩ = some (.bool (gg l i).w) ∧ W.cell? ⟨b, off + i * 3 + 2, none⟩ = some (.int .i64 (gg l i).y))
theorem GlRow.below {W W' : World} {n : Nat} {v : Value} {l : List Gl} (h : GlRow W v l) (hb : Below n W W') (hn : W.heap.size ≤ n) : GlRow W' v l := by
 obtain ⟨a, cap, rfl, h⟩ := h
 refine ⟨a, cap, rfl, fun hne => ?_⟩
 obtain ⟨b, off, rfl, h1, h2⟩ := h hne
 have hc := fun j => hb.cell (p := ⟨b, j, none⟩) (show b < n by omega)
 exact ⟨b, off, rfl, Nat.lt_of_lt_of_le h1 hb.size, fun i hi => ⟨(hc _).trans (h2 i hi).1, (hc _).trans (h2 i hi).2.1, (hc _).trans (h2 i hi).2.2⟩⟩
theorem glRow_of {W : World} {v : Value} {l : List Gl} (h : RepT (full W) (.slice true [.str, .bool, .int .i64]) (glsT l) v) : GlRow W v l := by
 have hl := zbo l
 generalize hct : CT.slice true [.str, .bool, .int .i64] = ct at h
 generalize hT : glsT l = T at h
 cases h with
 | int => cases hct
 | bool => cases hct
 | str => cases hct
 | map => cases hct
 | empty ag cs _ a cap h0 _ _ =>
  subst hT
  rw [h0] at hl
  have h00 : l = [] := List.length_eq_zero_iff.1 hl.symm
  subst h00
  exact ⟨a, cap, rfl, fun h => absurd rfl h⟩
 | slice ag cs _ g off cap cur el fr vals hM hcap hmax hc hr =>
  subst hT
  injection hct with e1 e2
  subst e1 e2
  refine ⟨_, cap, by rw [hl], fun _ => ⟨g, off, rfl, (Array.getElem?_eq_some_iff.1 (show W.heap[g]? = _ from hM)).1, fun i hi => ?_⟩⟩
  have hi' : i < (glsT l).asList.length := by omega
  have e3 : (glsT l).asList[i]'hi' = glT (gg l i) := by
   have := zi7 hi
   rw [List.getD_eq_getElem?_getD, List.getElem?_eq_getElem (by rw [List.length_map]; exact hi)] at this
   exact this
  have a0 := hc i hi' 0 (by simp)
  have a1 := hc i hi' 1 (by simp)
  have a2 := hc i hi' 2 (by simp)
  have b0 : RepT (full W) .str (zbk true ((glsT l).asList[i]'hi') 0) (vals i 0) := hr i hi' 0 (by simp)
  have b1 : RepT (full W) .bool (zbk true ((glsT l).asList[i]'hi') 1) (vals i 1) := hr i hi' 1 (by simp)
  have b2 : RepT (full W) (.int .i64) (zbk true ((glsT l).asList[i]'hi') 2) (vals i 2) := hr i hi' 2 (by simp)
  rw [e3] at b0 b1 b2
  generalize vals i 0 = u0 at a0 b0
  generalize vals i 1 = u1 at a1 b1
  generalize vals i 2 = u2 at a2 b2
  cases b0
  cases b1
  cases b2
  have hk : ∀ j u, cur[j]? = some u → W.cell? ⟨g, j, none⟩ = some u := fun j u hj => by simp [World.cell?, show W.heap[g]? = _ from hM, hj]
  exact ⟨hk _ _ a0, hk _ _ a1, hk _ _ a2⟩
theorem kind_call {w : World} (hG : GlobOk (mkEnv globT []) gtabU w) (g : Gl) : Calls Tryz.prog 60 #[.agg #[.string ⟨g.s.toArray⟩, .bool g.w, .int .i64 g.y]] w fun e w' => e = .returned (.int .i64 (segK g : Nat)) ∧ Below w.heap.size w w' := by
 refine ((segk_c 0).calls w [glT g] #[.agg #[.string ⟨g.s.toArray⟩, .bool g.w, .int .i64 g.y]] hG ⟨rfl, rfl, fun i x t v h1 h2 h3 => ?_⟩ (segk_pre trivial)).mono ?_
 ·match i, h1, h2, h3 with
  | 0, h1, h2, h3 =>
   cases h1; cases h2; cases h3
   refine ⟨_, rfl, rfl, fun c hc => ?_⟩
   match c, hc with
   | 0, _ => exact ⟨_, rfl, .str (.str g.s)⟩
   | 1, _ => exact ⟨_, rfl, .bool (.bool g.w)⟩
   | 2, _ => exact ⟨_, rfl, .int .i64 (.int g.y)⟩
 ·rintro e w' ⟨t, v, G', rfl, hp, hb, _, hr⟩
  obtain rfl : t = .int (segK g : Nat) := hp g.s g.w g.y rfl
  obtain rfl := hr.intL
  exact ⟨rfl, hb⟩
set_option maxRecDepth 100000 in
set_option maxHeartbeats 4000000 in
theorem words1_in (w : World) (hG : GlobOk (mkEnv globT []) gtabU w) (l : List Gl) (lv : Value) (B0 : Nat) (hr : GlRow w lv l) (hB0 : w.cell? ⟨B0, 0, none⟩ = some lv) (hBl : B0 < w.heap.size) (i : Nat) (hi1 : 1 ≤ i) (hi : i < l.length) (hl : l.length ≤ 10000) :
  Calls Tryz.prog 59 #[.int .i64 i, .pointer (some ⟨B0, 0, none⟩)] w fun e w' => e = .returned (.bool (decide (segK (gg l i) = segK (gg l (i - 1))))) ∧ Below w.heap.size w w' := by
 refine (callsIn_wide (n := 2)).1 ?_
 refine callsIn_of_wp Tryz.func59 rfl trivial ?_ rfl
 simp only [Tryz.ntmps59, List.size_toArray, List.length_cons, List.length_nil, Nat.reduceAdd, Nat.reduceSub, Array.replicate_succ, Array.replicate_zero, List.push_toArray, List.append_toArray, List.nil_append, List.cons_append]
 obtain ⟨a, cap, rfl, h⟩ := hr
 obtain ⟨b, off, rfl, hb, hc⟩ := h (fun e => by rw [e] at hi; simp at hi)
 obtain ⟨j, rfl⟩ : ∃ j, i = j + 1 := ⟨i - 1, by omega⟩
 obtain ⟨c0, c1, c2⟩ := hc (j + 1) hi
 obtain ⟨d0, d1, d2⟩ := hc j (by omega)
 simp only [Nat.add_sub_cancel]
 gi_wp2_with fail
 have hK1 := kind_call (w := w.drew) (hG.below (Below.refl _ w).drew) (gg l (j + 1))
 have hK2 := fun (w1 : World) (h1 : Below w.drew.heap.size w.drew w1) => kind_call (w := w1) (hG.below ((Below.refl _ w).drew.trans h1)) (gg l j)
 have tr : ∀ w1, Below w.drew.heap.size w.drew w1 → ∀ (B : Nat) o v, B < w.heap.size → w.cell? ⟨B, o, none⟩ = some v → w1.cell? ⟨B, o, none⟩ = some v := fun w1 h1 B o v hB hv => (h1.cell (p := ⟨B, o, none⟩) hB).trans hv
 have ewj : IntKind.wrap .i64 (j : Int) = (j : Int) := wrap_i64 (by omega) (by omega)
 refine wpIn_mono (Q := OnlyN fun a wz => ∃ u4 u5 u6 u7 u8 u9 u10 u11 u12 u13 u14 u15 : Value, a = { tmps := #[.int .i64 ((j + 1 : Nat) : Int), .pointer (some ⟨B0, 0, none⟩), undef, .bool (decide (segK (gg l (j + 1)) = segK (gg l j))), u4, u5, u6, u7, u8, u9, u10, u11, u12, u13, u14, u15], defers := [] } ∧ Below w.heap.size w wz) ?_ (only_mono ?_)
 ·refine wpIn_wide.2 (z1s (.op true 0 (.op true 1 (.op true 2 (.op true 3 (.op true 5 (.op true 6 (.op true 7 (.op true 8 (.op true 9 (.op false 4 (.op false 10 (.op false 11 (.op false 12 .nil))))))))))))) (by kernel_rfl) (by kernel_rfl) (S := fun wz => Below w.drew.heap.size w.drew wz) (Below.refl _ _) ?_)
  refine mx_v (v := ?vv0) rfl (by rfl) (fun _ _ _ h => h) ?hh0 ?rr0
  case hh0 =>
   intro w9 hS9
   have q0 := tr w9 hS9 _ _ _ hBl hB0
   have x0 := tr w9 hS9 _ _ _ hb c0
   have x1 := tr w9 hS9 _ _ _ hb c1
   have x2 := tr w9 hS9 _ _ _ hb c2
   have y0 := tr w9 hS9 _ _ _ hb d0
   have y1 := tr w9 hS9 _ _ _ hb d1
   have y2 := tr w9 hS9 _ _ _ hb d2
   go_simp
   try simp only [ewj, Int.toNat_natCast]
   try rw [if_pos (by omega)]
   try with_reducible rfl
  refine mx_v (v := ?vv1) rfl (by rfl) (fun _ _ _ h => h) ?hh1 ?rr1
  case hh1 =>
   intro w9 hS9
   have q0 := tr w9 hS9 _ _ _ hBl hB0
   have x0 := tr w9 hS9 _ _ _ hb c0
   have x1 := tr w9 hS9 _ _ _ hb c1
   have x2 := tr w9 hS9 _ _ _ hb c2
   have y0 := tr w9 hS9 _ _ _ hb d0
   have y1 := tr w9 hS9 _ _ _ hb d1
   have y2 := tr w9 hS9 _ _ _ hb d2
   go_simp
   try simp only [ewj, Int.toNat_natCast]
   try rw [if_pos (by omega)]
   try with_reducible rfl
  refine mx_v (v := ?vv2) rfl (by rfl) (fun _ _ _ h => h) ?hh2 ?rr2
  case hh2 =>
   intro w9 hS9
   have q0 := tr w9 hS9 _ _ _ hBl hB0
   have x0 := tr w9 hS9 _ _ _ hb c0
   have x1 := tr w9 hS9 _ _ _ hb c1
   have x2 := tr w9 hS9 _ _ _ hb c2
   have y0 := tr w9 hS9 _ _ _ hb d0
   have y1 := tr w9 hS9 _ _ _ hb d1
   have y2 := tr w9 hS9 _ _ _ hb d2
   go_simp
   try simp only [ewj, Int.toNat_natCast]
   try rw [if_pos (by omega)]
   try with_reducible rfl
  refine mx_v (v := ?vv3) rfl (by rfl) (fun _ _ _ h => h) ?hh3 ?rr3
  case hh3 =>
   intro w9 hS9
   have q0 := tr w9 hS9 _ _ _ hBl hB0
   have x0 := tr w9 hS9 _ _ _ hb c0
   have x1 := tr w9 hS9 _ _ _ hb c1
   have x2 := tr w9 hS9 _ _ _ hb c2
   have y0 := tr w9 hS9 _ _ _ hb d0
   have y1 := tr w9 hS9 _ _ _ hb d1
   have y2 := tr w9 hS9 _ _ _ hb d2
   go_simp
   try simp only [ewj, Int.toNat_natCast]
   try rw [if_pos (by omega)]
   try with_reducible rfl
  refine mx_v (v := ?vv5) rfl (by rfl) (fun _ _ _ h => h) ?hh5 ?rr5
  case hh5 =>
   intro w9 hS9
   have q0 := tr w9 hS9 _ _ _ hBl hB0
   have x0 := tr w9 hS9 _ _ _ hb c0
   have x1 := tr w9 hS9 _ _ _ hb c1
   have x2 := tr w9 hS9 _ _ _ hb c2
   have y0 := tr w9 hS9 _ _ _ hb d0
   have y1 := tr w9 hS9 _ _ _ hb d1
   have y2 := tr w9 hS9 _ _ _ hb d2
   go_simp
   try simp only [ewj, Int.toNat_natCast]
   try rw [if_pos (by omega)]
   try with_reducible rfl
  refine mx_v (v := ?vv6) rfl (by rfl) (fun _ _ _ h => h) ?hh6 ?rr6
  case hh6 =>
   intro w9 hS9
   have q0 := tr w9 hS9 _ _ _ hBl hB0
   have x0 := tr w9 hS9 _ _ _ hb c0
   have x1 := tr w9 hS9 _ _ _ hb c1
   have x2 := tr w9 hS9 _ _ _ hb c2
   have y0 := tr w9 hS9 _ _ _ hb d0
   have y1 := tr w9 hS9 _ _ _ hb d1
   have y2 := tr w9 hS9 _ _ _ hb d2
   go_simp
   try simp only [ewj, Int.toNat_natCast]
   try rw [if_pos (by omega)]
   try with_reducible rfl
  refine mx_v (v := ?vv7) rfl (by rfl) (fun _ _ _ h => h) ?hh7 ?rr7
  case hh7 =>
   intro w9 hS9
   have q0 := tr w9 hS9 _ _ _ hBl hB0
   have x0 := tr w9 hS9 _ _ _ hb c0
   have x1 := tr w9 hS9 _ _ _ hb c1
   have x2 := tr w9 hS9 _ _ _ hb c2
   have y0 := tr w9 hS9 _ _ _ hb d0
   have y1 := tr w9 hS9 _ _ _ hb d1
   have y2 := tr w9 hS9 _ _ _ hb d2
   go_simp
   try simp only [ewj, Int.toNat_natCast]
   try rw [if_pos (by omega)]
   try with_reducible rfl
  refine mx_v (v := ?vv8) rfl (by rfl) (fun _ _ _ h => h) ?hh8 ?rr8
  case hh8 =>
   intro w9 hS9
   have q0 := tr w9 hS9 _ _ _ hBl hB0
   have x0 := tr w9 hS9 _ _ _ hb c0
   have x1 := tr w9 hS9 _ _ _ hb c1
   have x2 := tr w9 hS9 _ _ _ hb c2
   have y0 := tr w9 hS9 _ _ _ hb d0
   have y1 := tr w9 hS9 _ _ _ hb d1
   have y2 := tr w9 hS9 _ _ _ hb d2
   go_simp
   try simp only [ewj, Int.toNat_natCast]
   try rw [if_pos (by omega)]
   try with_reducible rfl
  refine mx_v (v := ?vv9) rfl (by rfl) (fun _ _ _ h => h) ?hh9 ?rr9
  case hh9 =>
   intro w9 hS9
   have q0 := tr w9 hS9 _ _ _ hBl hB0
   have x0 := tr w9 hS9 _ _ _ hb c0
   have x1 := tr w9 hS9 _ _ _ hb c1
   have x2 := tr w9 hS9 _ _ _ hb c2
   have y0 := tr w9 hS9 _ _ _ hb d0
   have y1 := tr w9 hS9 _ _ _ hb d1
   have y2 := tr w9 hS9 _ _ _ hb d2
   go_simp
   try simp only [ewj, Int.toNat_natCast]
   try rw [if_pos (by omega)]
   try with_reducible rfl
  refine mx_run rfl (by rfl) (fun K hK => ?_)
  go_wp2_with (go_at_call 60; refine hK1.mono ?_; rintro e w1 ⟨rfl, hb1⟩)
  refine ⟨hb1, ?_⟩
  refine mx_run rfl (by rfl) (fun K hK => ?_)
  go_wp2_with (go_at_call 60; refine (hK2 w1 hb1).mono ?_; rintro e w2 ⟨rfl, hb2⟩)
  have hb12 : Below w.drew.heap.size w.drew w2 := hb1.trans (hb2.mono hb1.size)
  refine ⟨hb12, ?_⟩
  refine mx_run rfl (by rfl) (fun K hK => ?_)
  go_wp2_with fail
  refine ⟨hb12, ?_⟩
  refine mx_run rfl (by rfl) (fun K hK => ?_)
  go_wp2_with fail
  refine ⟨hb12, ?_⟩
  unfold wpMix
  have hbw : Below w.heap.size w w2 := (Below.refl _ w).drew.trans hb12
  have heq : ((segK (gg l (j + 1)) : Nat) : Int) = ((segK (gg l j) : Nat) : Int) ↔ segK (gg l (j + 1)) = segK (gg l j) := by omega
  have hbq : (((segK (gg l (j + 1)) : Nat) : Int) == ((segK (gg l j) : Nat) : Int)) = decide (segK (gg l (j + 1)) = segK (gg l j)) := by
   rw [Bool.eq_iff_iff, beq_iff_eq, decide_eq_true_eq]; exact heq
  try rw [← hbq]
  exact ⟨_, _, _, _, _, _, _, _, _, _, _, _, rfl, hbw⟩
 ·rintro a wz ⟨u4, u5, u6, u7, u8, u9, u10, u11, u12, u13, u14, u15, rfl, hbz⟩
  gi_wp2_with fail
  go_ret
  exact ⟨rfl, hbz⟩
def segA : Nat → List Gl → Nat → List (Nat × Nat)
 | 0, _, _ => []
 | f + 1, l, a => match l with
  | [] => []
  | g :: t => (a, a + 1 + runL (segK g) t) :: segA f (t.drop (runL (segK g) t)) (a + 1 + runL (segK g) t)
theorem segA_cons (f : Nat) (g : Gl) (t : List Gl) (a : Nat) : segA (f + 1) (g :: t) a = (a, a + 1 + runL (segK g) t) :: segA f (t.drop (runL (segK g) t)) (a + 1 + runL (segK g) t) := rfl
theorem segA_nil (f a : Nat) : segA f [] a = [] := by cases f <;> rfl
def Kp4 (n₀ k0 : Nat) (A B : World) : Prop := Below n₀ A B ∧ ∀ k, (k = k0 ∨ k = k0 + 2 ∨ k = k0 + 3) → B.heap[k]? = A.heap[k]?
theorem Kp4.refl (n₀ k0 : Nat) (A : World) : Kp4 n₀ k0 A A := ⟨Below.refl _ _, fun _ _ => rfl⟩
theorem Kp4.trans {n₀ k0 : Nat} {A B C : World} (h : Kp4 n₀ k0 A B) (k : Kp4 n₀ k0 B C) : Kp4 n₀ k0 A C := ⟨h.1.trans k.1, fun i h1 => (k.2 i h1).trans (h.2 i h1)⟩
theorem Kp4.putObj {n₀ k0 : Nat} {w : World} (h0 : n₀ ≤ w.heap.size) (h3 : k0 + 4 ≤ w.heap.size) (W : World) (l : Nat) (o o' : Obj) (hl : w.heap.size ≤ l) (h : W.heap[l]? = some o) (hc : o.isCells = false) (hw : o.isWalk = false) : Kp4 n₀ k0 W (W.putObj l o') :=
 ⟨belowK_b h0 W l o o' hl h hc hw, fun k h1 => World.putObj_heap_other (by omega)⟩
theorem Kp4.below {n₀ k0 N : Nat} {A B : World} (h : Below N A B) (h0 : n₀ ≤ N) (h3 : k0 + 4 ≤ N) : Kp4 n₀ k0 A B := ⟨h.mono h0, fun k h1 => h.block k (by omega)⟩
theorem Kp4.cell {n₀ k0 : Nat} {A B : World} (h : Kp4 n₀ k0 A B) {p : Addr} (h1 : p.block = k0 ∨ p.block = k0 + 2 ∨ p.block = k0 + 3) : B.cell? p = A.cell? p := World.cell?_of_block (h.2 _ h1)
theorem grown_of_below {A B : World} (h : Below A.heap.size A B) : A.grownBy B none := ⟨h.os, h.tape, h.output, h.size, fun k hk _ => h.block k hk⟩
abbrev Sp (l : List Gl) := {s : Nat × Nat // s.1 < l.length}
def vS {l : List Gl} (pre : List (Sp l)) : List (Nat × Nat) := pre.map (·.1)
theorem vS_snoc {l : List Gl} (pre : List (Sp l)) (x : Sp l) : vS (pre ++ [x]) = vS pre ++ [x.1] := by unfold vS; rw [List.map_append]; rfl
set_option maxRecDepth 100000 in
set_option maxHeartbeats 4000000 in
theorem spans1_in (n : Nat) (hn : 1 ≤ n) (lp k0 n₀ : Nat) (l : List Gl) (lv : Value) (hl : l.length ≤ 10000) (J Jx : List (Sp l) → World → Prop) (W : World) (hJ : AbidesFrom W.heap.size J) (h0n : n₀ ≤ W.heap.size) (h03 : k0 + 4 ≤ W.heap.size) (hval : ∃ a cap, lv = .slice a l.length cap)
  (hT : ∀ i, 1 ≤ i → i < l.length → ∀ W', Kp4 n₀ k0 W W' → Calls Tryz.prog 59 #[.int .i64 i, .pointer (some ⟨k0, 0, none⟩)] W' fun e w' => e = .returned (.bool (decide (segK (gg l i) = segK (gg l (i - 1))))) ∧ Below W'.heap.size W' w')
  (hY : ∀ pre x W1, J pre W1 → pre.length < l.length → YieldAt Fence.wide (n - 1) Tryz.prog lp #[.agg #[.int .i64 (x.1.1 : Nat), .int .i64 (x.1.2 : Nat)]] W1 fun e W' =>
   (e = .returned (.bool true) ∧ J (pre ++ [x]) W' ∧ Kp4 n₀ k0 W1 W') ∨ (e = .returned (.bool false) ∧ Jx (pre ++ [x]) W'))
  (hv : W.cell? ⟨k0 + 2, 0, none⟩ = some lv) (hf : W.cell? ⟨k0 + 3, 0, none⟩ = some (.func (.func 59) #[] #[.pointer (some ⟨k0, 0, none⟩)])) (h0 : J [] W) :
  CallsIn Fence.wide n Tryz.prog 94 #[.func (.yield lp) #[] #[], .pointer (some ⟨k0 + 2, 0, none⟩), .pointer (some ⟨k0 + 3, 0, none⟩)] W fun e W' => (∃ v, e = .returned v) ∧
   ((∃ ys, vS ys = segA l.length l 0 ∧ J ys W') ∨ (∃ pre, True ∧ Jx pre W')) := by
 obtain ⟨la, lc, rfl⟩ := hval
 refine callsIn_of_wp Tryz.func94 rfl trivial ?_ rfl
 simp only [Tryz.ntmps94, List.size_toArray, List.length_cons, List.length_nil, Nat.reduceAdd, Nat.reduceSub, Array.replicate_succ, Array.replicate_zero, List.push_toArray, List.append_toArray, List.nil_append, List.cons_append]
 gi_wp2
 gi_loopw [4] (fun p wr => ∃ (a f : Nat) (pre : List (Sp l)), a ≤ l.length ∧ p = .int .i64 a ∧ J pre wr ∧ Kp4 n₀ k0 W wr ∧ l.length - a ≤ f ∧ pre.length ≤ a ∧ segA l.length l 0 = vS pre ++ segA f (l.drop a) a) (fun p _ => l.length - (intOf p).toNat)
 case atStart => exact ⟨0, l.length, [], Nat.zero_le _, rfl, h0, Kp4.refl _ _ _, by omega, by show 0 ≤ 0; omega, by rw [List.drop_zero]; rfl⟩
 case round =>
  obtain ⟨a, f, pre, ha, rfl, hJs, hnx, hfa, hpl, hA⟩ := hrel
  have cv : wr.cell? ⟨k0 + 2, 0, none⟩ = some (.slice la l.length lc) := (hnx.cell (.inr (.inl rfl))).trans hv
  by_cases hlt : a < l.length
  ·obtain ⟨f, rfl⟩ : ∃ f', f = f' + 1 := ⟨f - 1, by omega⟩
   rw [zkt hlt, segA_cons] at hA
   gi_wp2_with fail
   gi_loopw [5] (fun p wr => ∃ b : Nat, a + 1 ≤ b ∧ b ≤ l.length ∧ p = .int .i64 b ∧ J pre wr ∧ Kp4 n₀ k0 W wr ∧ segK (gg l (b - 1)) = segK (gg l a) ∧ runL (segK (gg l a)) (l.drop (a + 1)) = (b - (a + 1)) + runL (segK (gg l a)) (l.drop b)) (fun p _ => l.length - (intOf p).toNat)
   case atStart => exact ⟨a + 1, by omega, by omega, by go_num, hJs, hnx, by rw [Nat.add_sub_cancel], by rw [Nat.sub_self, Nat.zero_add]⟩
   case round =>
    obtain ⟨b, hb1, hb2, rfl, hJb, hnb, hkb, hrb⟩ := hrel
    have cv2 : wr.cell? ⟨k0 + 2, 0, none⟩ = some (.slice la l.length lc) := (hnb.cell (.inr (.inl rfl))).trans hv
    have cf2 : wr.cell? ⟨k0 + 3, 0, none⟩ = some (.func (.func 59) #[] #[.pointer (some ⟨k0, 0, none⟩)]) := (hnb.cell (.inr (.inr rfl))).trans hf
    by_cases hbl : b < l.length
    ·have hT' := hT b (by omega) hbl wr hnb
     have hnwF : ∀ w', Below wr.heap.size wr w' → Kp4 n₀ k0 wr w' := fun w' hbW => Kp4.below hbW (Nat.le_trans h0n hnb.1.size) (Nat.le_trans h03 hnb.1.size)
     have hJwF : ∀ w', Below wr.heap.size wr w' → J pre w' := fun w' hbW => hJ _ _ _ none hJb (grown_of_below hbW) (fun r e => by cases e)
     have hdb := zkt hbl
     by_cases hk : segK (gg l b) = segK (gg l (b - 1))
     ·have hdec : decide (segK (gg l b) = segK (gg l (b - 1))) = true := decide_eq_true hk
      rw [hdec] at hT'
      have hr1 : runL (segK (gg l a)) (l.drop b) = runL (segK (gg l a)) (l.drop (b + 1)) + 1 := by
       rw [hdb]; exact if_pos (hk.trans hkb)
      gi_wp2_with (refine ⟨trivial, ?_⟩; gi_at_call 59; refine (callsIn_wide.2 hT').mono ?_; rintro e w' ⟨rfl, hbW⟩)
      have hJw := hJwF _ hbW
      have hnb' := hnb.trans (hnwF _ hbW)
      go_roundw
      case rel => exact ⟨b + 1, by omega, by omega, by go_num, hJw, hnb', by rw [Nat.add_sub_cancel]; exact hk.trans hkb, by omega⟩
      case measure => simp [intOf]; omega
     ·have hdec : decide (segK (gg l b) = segK (gg l (b - 1))) = false := decide_eq_false hk
      rw [hdec] at hT'
      have hr0 : runL (segK (gg l a)) (l.drop b) = 0 := by
       rw [hdb]; exact if_neg (fun z => hk (z.trans hkb.symm))
      gi_wp2_with (refine ⟨trivial, ?_⟩; gi_at_call 59; refine (callsIn_wide.2 hT').mono ?_; rintro e w' ⟨rfl, hbW⟩; have hJw := hJwF _ hbW; obtain ⟨fn, tmps, assign, body, hy, hR⟩ := hY pre ⟨(a, b), hlt⟩ w' hJw (by omega); dsimp only at hy)
      have hnb' := hnb.trans (hnwF _ hbW)
      have hru : runL (segK (gg l a)) (l.drop (a + 1)) = b - (a + 1) := by omega
      have hA' : segA l.length l 0 = vS (pre ++ [⟨(a, b), hlt⟩]) ++ segA f (l.drop b) b := by
       rw [hru, List.drop_drop, show a + 1 + (b - (a + 1)) = b by omega] at hA
       rw [hA, vS_snoc, List.append_assoc]; rfl
      refine hR.mono ?_
      rintro e W3 (⟨rfl, hJ3, hk3⟩ | ⟨rfl, hJx3⟩)
      ·gi_wp2_with fail
       go_roundw
       case rel => exact ⟨b, f, pre ++ [⟨(a, b), hlt⟩], hb2, by go_num, hJ3, (hnb').trans hk3, by omega, by rw [List.length_append, List.length_singleton]; omega, hA'⟩
       case measure => simp [intOf]; omega
      ·gi_wp2_with fail
       refine bodyPost_ret (results_none rfl _ _ _) rfl ?_
       exact ⟨⟨_, rfl⟩, .inr ⟨_, trivial, hJx3⟩⟩
    ·obtain rfl : b = l.length := by omega
     have hr0 : runL (segK (gg l a)) (l.drop l.length) = 0 := by rw [List.drop_of_length_le (Nat.le_refl _)]; rfl
     have hru : runL (segK (gg l a)) (l.drop (a + 1)) = l.length - (a + 1) := by omega
     have hA' : segA l.length l 0 = vS (pre ++ [⟨(a, l.length), hlt⟩]) ++ segA f (l.drop l.length) l.length := by
      rw [hru, List.drop_drop, show a + 1 + (l.length - (a + 1)) = l.length by omega] at hA
      rw [hA, vS_snoc, List.append_assoc]; rfl
     obtain ⟨fn, tmps, assign, body, hy, hR⟩ := hY pre ⟨(a, l.length), hlt⟩ wr hJb (by omega)
     dsimp only at hy
     gi_wp2
     refine ⟨by simp, ?_⟩
     gi_wp2
     refine hR.mono ?_
     rintro e W3 (⟨rfl, hJ3, hk3⟩ | ⟨rfl, hJx3⟩)
     ·gi_wp2_with fail
      go_roundw
      case rel => exact ⟨l.length, f, pre ++ [⟨(a, l.length), hlt⟩], hb2, by go_num, hJ3, (hnb).trans hk3, by omega, by rw [List.length_append, List.length_singleton]; omega, hA'⟩
      case measure => simp [intOf]; omega
     ·gi_wp2_with fail
      refine bodyPost_ret (results_none rfl _ _ _) rfl ?_
      exact ⟨⟨_, rfl⟩, .inr ⟨_, trivial, hJx3⟩⟩
  ·obtain rfl : a = l.length := by omega
   rw [List.drop_of_length_le (Nat.le_refl _), segA_nil, List.append_nil] at hA
   gi_wp2_with fail
   go_end0
   exact ⟨⟨_, rfl⟩, .inl ⟨_, hA.symm, hJs⟩⟩
end
end Go.Proofs.YtlhagkbhojmjpaaGreatDoor
