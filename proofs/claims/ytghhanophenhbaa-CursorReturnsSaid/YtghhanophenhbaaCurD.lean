/- The exported functions of package cursor, by their contracts. -/
import Derived.Test.YtghhanophenhbaaCurC
namespace Go.Proofs.Ytghhanophenhbaa
set_option linter.unusedSimpArgs false
set_option linter.unusedVariables false
set_option linter.unusedSectionVars false
open Go.RowKit

set_option maxHeartbeats 1000000 in
/-- The closure that moves to a position. -/
theorem to1 (o : Bool) (row col r0 c0 W H T B : Int) (bp br bk bb : Nat) (w : World) (h1 : 1 ≤ W) (h2 : W ≤ 132) (h3 : 1 ≤ H) (h4 : H ≤ 60) (h5 : 0 ≤ T) (h6 : T < B) (h7 : B ≤ H)
    (c1 : w.cell? ⟨bp, 0, none⟩ = some (.int .i64 r0)) (c1' : w.cell? ⟨bp, 1, none⟩ = some (.int .i64 c0)) (f1 : w.frozen? ⟨bp, 0, none⟩ = false) (f1' : w.frozen? ⟨bp, 1, none⟩ = false) (c2 : w.cell? ⟨br, 0, none⟩ = some (.int .i64 row)) (c3 : w.cell? ⟨bk, 0, none⟩ = some (.int .i64 col))
    (d0 : w.cell? ⟨bb, 0, none⟩ = some (.int .i64 W)) (d1 : w.cell? ⟨bb, 1, none⟩ = some (.int .i64 H)) (d2 : w.cell? ⟨bb, 2, none⟩ = some (.int .i64 T)) (d3 : w.cell? ⟨bb, 3, none⟩ = some (.int .i64 B)) (d4 : w.cell? ⟨bb, 4, none⟩ = some (.bool o)) (l1 : bp < w.heap.size) (l2 : br < w.heap.size) (l3 : bk < w.heap.size) (l4 : bb < w.heap.size) (n1 : bp ≠ bb) :
    Calls Try.prog 35 #[.pointer (some ⟨bp, 0, none⟩), .func (.func 38) #[] #[], .pointer (some ⟨br, 0, none⟩), .pointer (some ⟨bk, 0, none⟩), .pointer (some ⟨bb, 0, none⟩)] w fun e w' =>
      e = .returned (.tuple #[]) ∧ Gr (if o then (((w.setCell ⟨bp, 1, none⟩ (.int .i64 (lim (lim col 1 1000 - 1) 0 (W - 1)))).setCell ⟨bp, 0, none⟩ (.int .i64 (lim (lim row 1 1000 - 1) 0 (H - 1)))).setCell ⟨bp, 0, none⟩ (.int .i64 (lim (T + (lim row 1 1000 - 1)) T (B - 1)))) else
        (w.setCell ⟨bp, 1, none⟩ (.int .i64 (lim (lim col 1 1000 - 1) 0 (W - 1)))).setCell ⟨bp, 0, none⟩ (.int .i64 (lim (lim row 1 1000 - 1) 0 (H - 1)))) w' := by
  have b1 := lim_ge row 1 1000
  have b2 := lim_le row 1 1000 (by omega)
  have b3 := lim_ge col 1 1000
  have b4 := lim_le col 1 1000 (by omega)
  cases o
  · go_enter Try.func35, Try.ntmps35
    go_wp2
    refine wp_region_mix [(true, 0), (true, 1), (true, 4), (true, 5), (false, 2), (true, 3), (false, 6), (true, 7), (true, 8), (true, 9)] (by kernel_rfl) (by kernel_rfl) ?_
    repeat (first
      | (refine mix_q rfl (by rfl) rfl (fun _ _ _ _ h => h) (fun K hK => ?_); go_big_quiet_op; refine hK _ ?_; clear hK K)
      | (refine mix_skip rfl (by rfl) (fun _ _ _ h => h) ?_; simp only [Act.put, List.setIfInBounds_toArray, List.set_cons_zero, List.set_cons_succ])
      | (refine mix_run rfl (by rfl) (fun K hK => ?_)
         go_wp2_with (go_at_call 38; refine (limit_any _ _ _ _).mono ?_; rintro e w' ⟨rfl, rfl⟩)
         refine ⟨by (repeat (first | with_reducible exact Gr.refl _ | with_reducible apply Gr.undrew | with_reducible apply Gr.undrewN | with_reducible apply Gr.drew | with_reducible apply Gr.drewN | with_reducible apply Gr.grow | with_reducible apply Gr.alloc | (with_reducible refine Gr.setCell ?_ (by first | (simp; done) | (simp; omega)) _) | with_reducible assumption | (refine Gr.trans ?_ (by with_reducible assumption)))), ?_⟩)
      | (refine mix_skip_run rfl (by rfl) (by (repeat (first | with_reducible exact Gr.refl _ | with_reducible apply Gr.undrew | with_reducible apply Gr.undrewN | with_reducible apply Gr.drew | with_reducible apply Gr.drewN | with_reducible apply Gr.grow | with_reducible apply Gr.alloc | (with_reducible refine Gr.setCell ?_ (by first | (simp; done) | (simp; omega)) _) | with_reducible assumption | (refine Gr.trans ?_ (by with_reducible assumption))))) ?_; simp only [Act.put, List.setIfInBounds_toArray, List.set_cons_zero, List.set_cons_succ]))
    refine wpMix_nil ?_
    go_wp2_with (go_at_call 38; refine (limit_any _ _ _ _).mono ?_; rintro e w' ⟨rfl, rfl⟩)
    go_end0
    refine ⟨rfl, ?_⟩
    (try simp only [Bool.false_eq_true, if_false, if_true])
    (repeat (first | with_reducible exact Gr.refl _ | with_reducible apply Gr.undrew | with_reducible apply Gr.undrewN | with_reducible apply Gr.drew | with_reducible apply Gr.drewN | with_reducible apply Gr.grow | with_reducible apply Gr.alloc | (with_reducible refine Gr.setCell ?_ (by first | (simp; done) | (simp; omega)) _) | with_reducible assumption | (refine Gr.trans ?_ (by with_reducible assumption))))
  · go_enter Try.func35, Try.ntmps35
    go_wp2
    refine wp_region_mix [(true, 0), (true, 1), (true, 4), (true, 5), (false, 2), (true, 3), (false, 6), (true, 7), (true, 8), (true, 9)] (by kernel_rfl) (by kernel_rfl) ?_
    repeat (first
      | (refine mix_q rfl (by rfl) rfl (fun _ _ _ _ h => h) (fun K hK => ?_); go_big_quiet_op; refine hK _ ?_; clear hK K)
      | (refine mix_skip rfl (by rfl) (fun _ _ _ h => h) ?_; simp only [Act.put, List.setIfInBounds_toArray, List.set_cons_zero, List.set_cons_succ])
      | (refine mix_run rfl (by rfl) (fun K hK => ?_)
         go_wp2_with (go_at_call 38; refine (limit_any _ _ _ _).mono ?_; rintro e w' ⟨rfl, rfl⟩)
         refine ⟨by (repeat (first | with_reducible exact Gr.refl _ | with_reducible apply Gr.undrew | with_reducible apply Gr.undrewN | with_reducible apply Gr.drew | with_reducible apply Gr.drewN | with_reducible apply Gr.grow | with_reducible apply Gr.alloc | (with_reducible refine Gr.setCell ?_ (by first | (simp; done) | (simp; omega)) _) | with_reducible assumption | (refine Gr.trans ?_ (by with_reducible assumption)))), ?_⟩)
      | (refine mix_skip_run rfl (by rfl) (by (repeat (first | with_reducible exact Gr.refl _ | with_reducible apply Gr.undrew | with_reducible apply Gr.undrewN | with_reducible apply Gr.drew | with_reducible apply Gr.drewN | with_reducible apply Gr.grow | with_reducible apply Gr.alloc | (with_reducible refine Gr.setCell ?_ (by first | (simp; done) | (simp; omega)) _) | with_reducible assumption | (refine Gr.trans ?_ (by with_reducible assumption))))) ?_; simp only [Act.put, List.setIfInBounds_toArray, List.set_cons_zero, List.set_cons_succ]))
    refine wpMix_nil ?_
    go_wp2_with (go_at_call 38; refine (limit_any _ _ _ _).mono ?_; rintro e w' ⟨rfl, rfl⟩)
    go_end0
    refine ⟨rfl, ?_⟩
    (try simp only [Bool.false_eq_true, if_false, if_true])
    (repeat (first | with_reducible exact Gr.refl _ | with_reducible apply Gr.undrew | with_reducible apply Gr.undrewN | with_reducible apply Gr.drew | with_reducible apply Gr.drewN | with_reducible apply Gr.grow | with_reducible apply Gr.alloc | (with_reducible refine Gr.setCell ?_ (by first | (simp; done) | (simp; omega)) _) | with_reducible assumption | (refine Gr.trans ?_ (by with_reducible assumption))))

theorem noop (k : FuncId) (fn : Func) : True := trivial
theorem noopFeed (a b : Value) (w : World) : Calls Try.prog 31 #[a, b] w fun e w' => e = .returned (.tuple #[]) ∧ w = w' := by
  go_enter Try.func31, Try.ntmps31
  go_wp2
  go_end0
  exact ⟨rfl, rfl⟩
theorem noopReverse (a b : Value) (w : World) : Calls Try.prog 33 #[a, b] w fun e w' => e = .returned (.tuple #[]) ∧ w = w' := by
  go_enter Try.func33, Try.ntmps33
  go_wp2
  go_end0
  exact ⟨rfl, rfl⟩
theorem callUp1 (xs : Array Value) (w : World) : (callFunc 29 xs).run Try.prog w = .ok (.enter 29 xs) w := by kernel_rfl
theorem callRight1 (xs : Array Value) (w : World) : (callFunc 28 xs).run Try.prog w = .ok (.enter 28 xs) w := by kernel_rfl
theorem callTo1 (xs : Array Value) (w : World) : (callFunc 35 xs).run Try.prog w = .ok (.enter 35 xs) w := by kernel_rfl
theorem callFeed1 (xs : Array Value) (w : World) : (callFunc 31 xs).run Try.prog w = .ok (.enter 31 xs) w := by kernel_rfl
theorem callReverse1 (xs : Array Value) (w : World) : (callFunc 33 xs).run Try.prog w = .ok (.enter 33 xs) w := by kernel_rfl

set_option maxHeartbeats 1000000 in
theorem up_yes (r c n : Int) (p : Bool) (W H T B : Int) (o : Bool) (w : World) (h1 : 1 ≤ W) (h2 : W ≤ 132) (h3 : 1 ≤ H) (h4 : H ≤ 60) (h5 : 0 ≤ T) (h6 : T < B) (h7 : B ≤ H) :
    Calls Try.prog 14 #[cur r c p, .int .i64 n, bnd W H T B o] w fun e w' => e = .returned (cur (upRow (lim r 0 (H - 1)) n H T B) (lim c 0 (W - 1)) false) ∧ Gr w w' := by
  have b1 := lim_ge r 0 (H - 1)
  have b2 := lim_le r 0 (H - 1) (by omega)
  go_enter Try.func14, Try.ntmps14
  go_wp2_with fail
  refine (move_yes2 _ _ _ r c p W H T B o _ (upRow (lim r 0 (H - 1)) n H T B) (lim c 0 (W - 1)) h1 h2 h3 h4 h5 h6 h7 callUp1 ?_).mono ?_
  · intro w1 bp g l1 l2 c1 c2 f1 f2
    obtain ⟨cN, fN, hc, hf, hs⟩ := g.facts
    simp only [World.size_alloc] at hc hf hs l1
    refine (up1 n (lim r 0 (H - 1)) (lim c 0 (W - 1)) W H T B false o bp _ _ w1 b1 (by omega) h3 h4 h5 h6 h7 c1 f1 ?_ ?_ ?_ ?_ ?_ ?_ l2 (by omega) (by omega)).mono ?_
    any_goals (simp [hc, go_sem, ↓IntWalk.iteOmega]; done)
    rintro e w' ⟨rfl, hg⟩
    refine ⟨rfl, ?_⟩
    rw [setCell_self (v := .int .i64 (lim c 0 (W - 1))) (by rw [World.cell?_setCell_other _ _ _ _ (by intro e; cases e)]; exact c2)]
    exact hg
  rintro e w1 ⟨rfl, hg⟩
  obtain ⟨cN, fN, hc, hf, hs⟩ := hg.facts; (try simp only [World.size_alloc, World.size_drew] at hc hf hs)
  go_wp2
  refine bodyPost_ret (v := cur (upRow (lim r 0 (H - 1)) n H T B) (lim c 0 (W - 1)) false) (by simp [*, results, Try.results14, go_sem, ↓IntWalk.iteOmega]) rfl ⟨rfl, ?_⟩
  (repeat (first | with_reducible exact Gr.refl _ | with_reducible apply Gr.undrew | with_reducible apply Gr.undrewN | with_reducible apply Gr.drew | with_reducible apply Gr.drewN | with_reducible apply Gr.grow | with_reducible apply Gr.alloc | (with_reducible refine Gr.setCell ?_ (by first | (simp; done) | (simp; omega)) _) | with_reducible assumption | (refine Gr.trans ?_ (by with_reducible assumption))))

set_option maxHeartbeats 1000000 in
theorem right_yes (r c n : Int) (p : Bool) (W H T B : Int) (o : Bool) (w : World) (h1 : 1 ≤ W) (h2 : W ≤ 132) (h3 : 1 ≤ H) (h4 : H ≤ 60) (h5 : 0 ≤ T) (h6 : T < B) (h7 : B ≤ H) :
    Calls Try.prog 13 #[cur r c p, .int .i64 n, bnd W H T B o] w fun e w' => e = .returned (cur (lim r 0 (H - 1)) (lim (lim c 0 (W - 1) + lim n (-1000) 1000) 0 (W - 1)) false) ∧ Gr w w' := by
  have b1 := lim_ge c 0 (W - 1)
  have b2 := lim_le c 0 (W - 1) (by omega)
  go_enter Try.func13, Try.ntmps13
  go_wp2_with fail
  refine (move_yes2 _ _ _ r c p W H T B o _ (lim r 0 (H - 1)) (lim (lim c 0 (W - 1) + lim n (-1000) 1000) 0 (W - 1)) h1 h2 h3 h4 h5 h6 h7 callRight1 ?_).mono ?_
  · intro w1 bp g l1 l2 c1 c2 f1 f2
    obtain ⟨cN, fN, hc, hf, hs⟩ := g.facts
    simp only [World.size_alloc] at hc hf hs l1
    refine (right1 n (lim c 0 (W - 1)) W bp _ _ w1 h1 h2 b1 (by omega) c2 f2 ?_ ?_ l2 (by omega) (by omega)).mono ?_
    any_goals (simp [hc, go_sem, ↓IntWalk.iteOmega]; done)
    rintro e w' ⟨rfl, hg⟩
    refine ⟨rfl, ?_⟩
    rw [setCell_self c1]
    exact hg
  rintro e w1 ⟨rfl, hg⟩
  obtain ⟨cN, fN, hc, hf, hs⟩ := hg.facts; (try simp only [World.size_alloc, World.size_drew] at hc hf hs)
  go_wp2
  refine bodyPost_ret (v := cur (lim r 0 (H - 1)) (lim (lim c 0 (W - 1) + lim n (-1000) 1000) 0 (W - 1)) false) (by simp [*, results, Try.results13, go_sem, ↓IntWalk.iteOmega]) rfl ⟨rfl, ?_⟩
  (repeat (first | with_reducible exact Gr.refl _ | with_reducible apply Gr.undrew | with_reducible apply Gr.undrewN | with_reducible apply Gr.drew | with_reducible apply Gr.drewN | with_reducible apply Gr.grow | with_reducible apply Gr.alloc | (with_reducible refine Gr.setCell ?_ (by first | (simp; done) | (simp; omega)) _) | with_reducible assumption | (refine Gr.trans ?_ (by with_reducible assumption))))

set_option maxHeartbeats 1000000 in
theorem up_no (r c n : Int) (p : Bool) (W H T B : Int) (o : Bool) (w : World) (h : ¬ okB W H T B) :
    Calls Try.prog 14 #[cur r c p, .int .i64 n, bnd W H T B o] w fun e w' => e = .returned (cur 0 0 false) ∧ Gr w w' := by
  go_enter Try.func14, Try.ntmps14
  go_wp2_with fail
  refine (move_no2 _ _ _ r c p W H T B o _ h).mono ?_
  rintro e w1 ⟨rfl, hg⟩
  obtain ⟨cN, fN, hc, hf, hs⟩ := hg.facts; (try simp only [World.size_alloc, World.size_drew] at hc hf hs)
  go_wp2
  refine bodyPost_ret (v := cur 0 0 false) (by simp [*, results, Try.results14, go_sem, ↓IntWalk.iteOmega]) rfl ⟨rfl, ?_⟩
  (repeat (first | with_reducible exact Gr.refl _ | with_reducible apply Gr.undrew | with_reducible apply Gr.undrewN | with_reducible apply Gr.drew | with_reducible apply Gr.drewN | with_reducible apply Gr.grow | with_reducible apply Gr.alloc | (with_reducible refine Gr.setCell ?_ (by first | (simp; done) | (simp; omega)) _) | with_reducible assumption | (refine Gr.trans ?_ (by with_reducible assumption))))

set_option maxHeartbeats 1000000 in
theorem right_no (r c n : Int) (p : Bool) (W H T B : Int) (o : Bool) (w : World) (h : ¬ okB W H T B) :
    Calls Try.prog 13 #[cur r c p, .int .i64 n, bnd W H T B o] w fun e w' => e = .returned (cur 0 0 false) ∧ Gr w w' := by
  go_enter Try.func13, Try.ntmps13
  go_wp2_with fail
  refine (move_no2 _ _ _ r c p W H T B o _ h).mono ?_
  rintro e w1 ⟨rfl, hg⟩
  obtain ⟨cN, fN, hc, hf, hs⟩ := hg.facts; (try simp only [World.size_alloc, World.size_drew] at hc hf hs)
  go_wp2
  refine bodyPost_ret (v := cur 0 0 false) (by simp [*, results, Try.results13, go_sem, ↓IntWalk.iteOmega]) rfl ⟨rfl, ?_⟩
  (repeat (first | with_reducible exact Gr.refl _ | with_reducible apply Gr.undrew | with_reducible apply Gr.undrewN | with_reducible apply Gr.drew | with_reducible apply Gr.drewN | with_reducible apply Gr.grow | with_reducible apply Gr.alloc | (with_reducible refine Gr.setCell ?_ (by first | (simp; done) | (simp; omega)) _) | with_reducible assumption | (refine Gr.trans ?_ (by with_reducible assumption))))

end Go.Proofs.Ytghhanophenhbaa
