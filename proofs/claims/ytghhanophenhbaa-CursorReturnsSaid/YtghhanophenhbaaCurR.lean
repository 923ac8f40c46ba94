/- The reference of chapter 10, by contracts with the same values. -/
import Derived.Test.YtghhanophenhbaaCurF
import Derived.Deep.RegionWith
namespace Go.Proofs.Ytghhanophenhbaa
set_option linter.unusedSimpArgs false
set_option linter.unusedVariables false
set_option linter.unusedSectionVars false
open Go.RowKit

set_option maxHeartbeats 400000 in
theorem rlimit_any (n lo hi : Int) (w : World) (h : lo ≤ hi) : Calls Try.prog 37 #[.int .i64 n, .int .i64 lo, .int .i64 hi] w fun e w' => e = .returned (.int .i64 (lim n lo hi)) ∧ w = w' := by
  go_enter Try.func37, Try.ntmps37
  go_wp2
  all_goals (go_ret; refine ⟨?_, rfl⟩; unfold lim; simp; try omega)

set_option maxHeartbeats 400000 in
theorem rcheck_yes (W H T B : Int) (o : Bool) (w : World) (h1 : 1 ≤ W) (h2 : W ≤ 132) (h3 : 1 ≤ H) (h4 : H ≤ 60) (h5 : 0 ≤ T) (h6 : T < B) (h7 : B ≤ H) :
    Calls Try.prog 22 #[bnd W H T B o] w fun e w' => e = .returned (.int .i64 0) ∧ Gr w w' := by
  go_enter Try.func22, Try.ntmps22
  go_wp2
  go_ret
  exact ⟨rfl, (Gr.refl _).alloc _⟩
set_option maxHeartbeats 1000000 in
theorem rcheck_no (W H T B : Int) (o : Bool) (w : World) (h : ¬ okB W H T B) :
    Calls Try.prog 22 #[bnd W H T B o] w fun e w' => e = .returned (.int .i64 2) ∧ Gr w w' := by
  unfold okB at h
  go_enter Try.func22, Try.ntmps22
  go_wp2
  all_goals (go_ret; exact ⟨rfl, (Gr.refl _).alloc _⟩)

set_option maxHeartbeats 400000 in
theorem rstart_any (r c : Int) (p : Bool) (W H T B : Int) (o : Bool) (w : World) (h1 : 1 ≤ W) (h2 : W ≤ 132) (h3 : 1 ≤ H) (h4 : H ≤ 60) :
    Calls Try.prog 32 #[cur r c p, bnd W H T B o] w fun e w' => e = .returned (cur (lim r 0 (H - 1)) (lim c 0 (W - 1)) false) ∧ Gr w w' := by
  go_enter Try.func32, Try.ntmps32
  go_wp2
  refine wp_region_mix_tail 13 [(true, 0), (true, 1), (true, 2), (true, 3), (true, 4), (true, 6), (true, 7), (true, 8), (true, 9), (true, 10), (false, 5), (false, 11), (true, 12)] (by kernel_rfl) (by kernel_rfl) (by decide) ?_
  repeat (first
    | (refine mix_q rfl (by rfl) rfl (fun _ _ _ _ h => h) (fun K hK => ?_); go_big_quiet_op; refine hK _ ?_; clear hK K)
    | (refine mix_skip rfl (by rfl) (fun _ _ _ h => h) ?_; simp only [Act.put, List.setIfInBounds_toArray, List.set_cons_zero, List.set_cons_succ])
    | (refine mix_run rfl (by rfl) (fun K hK => ?_)
       go_wp2_with ((go_at_call 37; refine (rlimit_any _ _ _ _ (by first | decide | omega)).mono ?_; rintro e w' ⟨rfl, rfl⟩))
       refine ⟨by (repeat (first | with_reducible exact Gr.refl _ | with_reducible apply Gr.undrew | with_reducible apply Gr.undrewN | with_reducible apply Gr.drew | with_reducible apply Gr.drewN | with_reducible apply Gr.grow | with_reducible apply Gr.alloc | (with_reducible refine Gr.setCell ?_ (by first | (simp; done) | (simp; omega)) _) | with_reducible assumption | (refine Gr.trans ?_ (by with_reducible assumption)))), ?_⟩)
    | (refine mix_skip_run rfl (by rfl) (by (repeat (first | with_reducible exact Gr.refl _ | with_reducible apply Gr.undrew | with_reducible apply Gr.undrewN | with_reducible apply Gr.drew | with_reducible apply Gr.drewN | with_reducible apply Gr.grow | with_reducible apply Gr.alloc | (with_reducible refine Gr.setCell ?_ (by first | (simp; done) | (simp; omega)) _) | with_reducible assumption | (refine Gr.trans ?_ (by with_reducible assumption))))) ?_; simp only [Act.put, List.setIfInBounds_toArray, List.set_cons_zero, List.set_cons_succ]))
  refine wpMix_nil ?_
  simp only [List.drop_succ_cons, List.drop_zero]
  go_wp2
  refine bodyPost_ret (v := cur (lim r 0 (H - 1)) (lim c 0 (W - 1)) false) (by simp [*, results, Try.results32, go_sem, ↓IntWalk.iteOmega]) rfl ⟨rfl, ?_⟩
  (repeat (first | with_reducible exact Gr.refl _ | with_reducible apply Gr.undrew | with_reducible apply Gr.undrewN | with_reducible apply Gr.drew | with_reducible apply Gr.drewN | with_reducible apply Gr.grow | with_reducible apply Gr.alloc | (with_reducible refine Gr.setCell ?_ (by first | (simp; done) | (simp; omega)) _) | with_reducible assumption | (refine Gr.trans ?_ (by with_reducible assumption))))

set_option maxHeartbeats 400000 in
theorem rinside_any (r : Int) (W H T B : Int) (o : Bool) (w : World) :
    Calls Try.prog 36 #[.int .i64 r, bnd W H T B o] w fun e w' => e = .returned (.bool (decide (T ≤ r) && decide (r < B))) ∧ Gr w w' := by
  by_cases h1 : T ≤ r
  · by_cases h2 : r < B
    · go_enter Try.func36, Try.ntmps36
      go_wp2
      go_ret
      exact ⟨by simp [h1, h2], (Gr.refl _).alloc _⟩
    · go_enter Try.func36, Try.ntmps36
      go_wp2
      go_ret
      exact ⟨by simp [h1, h2], (Gr.refl _).alloc _⟩
  · go_enter Try.func36, Try.ntmps36
    go_wp2
    go_ret
    exact ⟨by simp [show ¬ T ≤ r by omega], (Gr.refl _).alloc _⟩

set_option maxHeartbeats 1000000 in
theorem rclamp_no (r c : Int) (p : Bool) (W H T B : Int) (o : Bool) (w : World) (h : ¬ okB W H T B) :
    Calls Try.prog 23 #[cur r c p, bnd W H T B o] w fun e w' => e = .returned (cur 0 0 false) ∧ Gr w w' := by
  go_enter Try.func23, Try.ntmps23
  go_wp2_with (go_at_call 22; refine (rcheck_no _ _ _ _ _ _ h).mono ?_; rintro e w1 ⟨rfl, hg⟩; obtain ⟨cN, fN, hc, hf, hs⟩ := hg.facts; (try simp only [World.size_alloc, World.size_drew] at hc hf hs))
  refine bodyPost_ret (v := cur 0 0 false) (by simp [*, results, Try.results23, go_sem, ↓IntWalk.iteOmega]) rfl ⟨rfl, ?_⟩
  (repeat (first | with_reducible exact Gr.refl _ | with_reducible apply Gr.undrew | with_reducible apply Gr.undrewN | with_reducible apply Gr.drew | with_reducible apply Gr.drewN | with_reducible apply Gr.grow | with_reducible apply Gr.alloc | (with_reducible refine Gr.setCell ?_ (by first | (simp; done) | (simp; omega)) _) | with_reducible assumption | (refine Gr.trans ?_ (by with_reducible assumption))))

set_option maxHeartbeats 1000000 in
theorem rup_no (r c n : Int) (p : Bool) (W H T B : Int) (o : Bool) (w : World) (h : ¬ okB W H T B) :
    Calls Try.prog 24 #[cur r c p, .int .i64 n, bnd W H T B o] w fun e w' => e = .returned (cur 0 0 false) ∧ Gr w w' := by
  go_enter Try.func24, Try.ntmps24
  go_wp2_with (go_at_call 22; refine (rcheck_no _ _ _ _ _ _ h).mono ?_; rintro e w1 ⟨rfl, hg⟩; obtain ⟨cN, fN, hc, hf, hs⟩ := hg.facts; (try simp only [World.size_alloc, World.size_drew] at hc hf hs))
  refine bodyPost_ret (v := cur 0 0 false) (by simp [*, results, Try.results24, go_sem, ↓IntWalk.iteOmega]) rfl ⟨rfl, ?_⟩
  (repeat (first | with_reducible exact Gr.refl _ | with_reducible apply Gr.undrew | with_reducible apply Gr.undrewN | with_reducible apply Gr.drew | with_reducible apply Gr.drewN | with_reducible apply Gr.grow | with_reducible apply Gr.alloc | (with_reducible refine Gr.setCell ?_ (by first | (simp; done) | (simp; omega)) _) | with_reducible assumption | (refine Gr.trans ?_ (by with_reducible assumption))))

set_option maxHeartbeats 1000000 in
theorem rright_no (r c n : Int) (p : Bool) (W H T B : Int) (o : Bool) (w : World) (h : ¬ okB W H T B) :
    Calls Try.prog 25 #[cur r c p, .int .i64 n, bnd W H T B o] w fun e w' => e = .returned (cur 0 0 false) ∧ Gr w w' := by
  go_enter Try.func25, Try.ntmps25
  go_wp2_with (go_at_call 22; refine (rcheck_no _ _ _ _ _ _ h).mono ?_; rintro e w1 ⟨rfl, hg⟩; obtain ⟨cN, fN, hc, hf, hs⟩ := hg.facts; (try simp only [World.size_alloc, World.size_drew] at hc hf hs))
  refine bodyPost_ret (v := cur 0 0 false) (by simp [*, results, Try.results25, go_sem, ↓IntWalk.iteOmega]) rfl ⟨rfl, ?_⟩
  (repeat (first | with_reducible exact Gr.refl _ | with_reducible apply Gr.undrew | with_reducible apply Gr.undrewN | with_reducible apply Gr.drew | with_reducible apply Gr.drewN | with_reducible apply Gr.grow | with_reducible apply Gr.alloc | (with_reducible refine Gr.setCell ?_ (by first | (simp; done) | (simp; omega)) _) | with_reducible assumption | (refine Gr.trans ?_ (by with_reducible assumption))))

set_option maxHeartbeats 1000000 in
theorem rto_no (r c row col : Int) (p : Bool) (W H T B : Int) (o : Bool) (w : World) (h : ¬ okB W H T B) :
    Calls Try.prog 26 #[cur r c p, .int .i64 row, .int .i64 col, bnd W H T B o] w fun e w' => e = .returned (cur 0 0 false) ∧ Gr w w' := by
  go_enter Try.func26, Try.ntmps26
  go_wp2_with (go_at_call 22; refine (rcheck_no _ _ _ _ _ _ h).mono ?_; rintro e w1 ⟨rfl, hg⟩; obtain ⟨cN, fN, hc, hf, hs⟩ := hg.facts; (try simp only [World.size_alloc, World.size_drew] at hc hf hs))
  refine bodyPost_ret (v := cur 0 0 false) (by simp [*, results, Try.results26, go_sem, ↓IntWalk.iteOmega]) rfl ⟨rfl, ?_⟩
  (repeat (first | with_reducible exact Gr.refl _ | with_reducible apply Gr.undrew | with_reducible apply Gr.undrewN | with_reducible apply Gr.drew | with_reducible apply Gr.drewN | with_reducible apply Gr.grow | with_reducible apply Gr.alloc | (with_reducible refine Gr.setCell ?_ (by first | (simp; done) | (simp; omega)) _) | with_reducible assumption | (refine Gr.trans ?_ (by with_reducible assumption))))

set_option maxHeartbeats 1000000 in
theorem rfeed_no (r c : Int) (p : Bool) (W H T B : Int) (o : Bool) (w : World) (h : ¬ okB W H T B) :
    Calls Try.prog 16 #[cur r c p, bnd W H T B o] w fun e w' => e = .returned (.tuple #[cur 0 0 false, .int .i64 0]) ∧ Gr w w' := by
  go_enter Try.func16, Try.ntmps16
  go_wp2_with (go_at_call 22; refine (rcheck_no _ _ _ _ _ _ h).mono ?_; rintro e w1 ⟨rfl, hg⟩; obtain ⟨cN, fN, hc, hf, hs⟩ := hg.facts; (try simp only [World.size_alloc, World.size_drew] at hc hf hs))
  refine bodyPost_ret (v := .tuple #[cur 0 0 false, .int .i64 0]) (by simp [*, results, Try.results16, go_sem, ↓IntWalk.iteOmega]) rfl ⟨rfl, ?_⟩
  (repeat (first | with_reducible exact Gr.refl _ | with_reducible apply Gr.undrew | with_reducible apply Gr.undrewN | with_reducible apply Gr.drew | with_reducible apply Gr.drewN | with_reducible apply Gr.grow | with_reducible apply Gr.alloc | (with_reducible refine Gr.setCell ?_ (by first | (simp; done) | (simp; omega)) _) | with_reducible assumption | (refine Gr.trans ?_ (by with_reducible assumption))))

set_option maxHeartbeats 1000000 in
theorem rreverse_no (r c : Int) (p : Bool) (W H T B : Int) (o : Bool) (w : World) (h : ¬ okB W H T B) :
    Calls Try.prog 18 #[cur r c p, bnd W H T B o] w fun e w' => e = .returned (.tuple #[cur 0 0 false, .int .i64 0]) ∧ Gr w w' := by
  go_enter Try.func18, Try.ntmps18
  go_wp2_with (go_at_call 22; refine (rcheck_no _ _ _ _ _ _ h).mono ?_; rintro e w1 ⟨rfl, hg⟩; obtain ⟨cN, fN, hc, hf, hs⟩ := hg.facts; (try simp only [World.size_alloc, World.size_drew] at hc hf hs))
  refine bodyPost_ret (v := .tuple #[cur 0 0 false, .int .i64 0]) (by simp [*, results, Try.results18, go_sem, ↓IntWalk.iteOmega]) rfl ⟨rfl, ?_⟩
  (repeat (first | with_reducible exact Gr.refl _ | with_reducible apply Gr.undrew | with_reducible apply Gr.undrewN | with_reducible apply Gr.drew | with_reducible apply Gr.drewN | with_reducible apply Gr.grow | with_reducible apply Gr.alloc | (with_reducible refine Gr.setCell ?_ (by first | (simp; done) | (simp; omega)) _) | with_reducible assumption | (refine Gr.trans ?_ (by with_reducible assumption))))

end Go.Proofs.Ytghhanophenhbaa
