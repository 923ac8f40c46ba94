/- The reference of chapter 10, by contracts with the same values: proper bounds. -/
import Derived.Test.YtghhanophenhbaaCurR
namespace Go.Proofs.Ytghhanophenhbaa
set_option linter.unusedSimpArgs false
set_option linter.unusedVariables false
set_option linter.unusedSectionVars false
open Go.RowKit

set_option maxHeartbeats 1000000 in
theorem rclamp_yes0 (r c : Int) (W H T B : Int) (o : Bool) (w : World) (h1 : 1 ≤ W) (h2 : W ≤ 132) (h3 : 1 ≤ H) (h4 : H ≤ 60) (h5 : 0 ≤ T) (h6 : T < B) (h7 : B ≤ H)  :
    Calls Try.prog 23 #[cur r c false, bnd W H T B o] w fun e w' => e = .returned (cur (lim r 0 (H - 1)) (lim c 0 (W - 1)) false) ∧ Gr w w' := by
  go_enter Try.func23, Try.ntmps23
  go_wp2_with (first | (go_at_call 22; refine (rcheck_yes _ _ _ _ _ _ h1 h2 h3 h4 h5 h6 h7).mono ?_; rintro e w1 ⟨rfl, hg⟩; obtain ⟨cN, fN, hc, hf, hs⟩ := hg.facts; (try simp only [World.size_alloc, World.size_drew] at hc hf hs)) | (go_at_call 32; refine (rstart_any _ _ _ _ _ _ _ _ _ h1 h2 h3 h4).mono ?_; rintro e w2 ⟨rfl, hg⟩; obtain ⟨cN, fN, hc, hf, hs⟩ := hg.facts; (try simp only [World.size_alloc, World.size_drew] at hc hf hs)))
  refine bodyPost_ret (v := cur (lim r 0 (H - 1)) (lim c 0 (W - 1)) false) (by simp [*, results, Try.results23, go_sem, ↓IntWalk.iteOmega]) rfl ⟨rfl, ?_⟩
  (repeat (first | with_reducible exact Gr.refl _ | with_reducible apply Gr.undrew | with_reducible apply Gr.undrewN | with_reducible apply Gr.drew | with_reducible apply Gr.drewN | with_reducible apply Gr.grow | with_reducible apply Gr.alloc | (with_reducible refine Gr.setCell ?_ (by first | (simp; done) | (simp; omega)) _) | with_reducible assumption | (refine Gr.trans ?_ (by with_reducible assumption))))

set_option maxHeartbeats 1000000 in
theorem rclamp_yes1 (r c : Int) (W H T B : Int) (o : Bool) (w : World) (h1 : 1 ≤ W) (h2 : W ≤ 132) (h3 : 1 ≤ H) (h4 : H ≤ 60) (h5 : 0 ≤ T) (h6 : T < B) (h7 : B ≤ H) (hq : lim c 0 (W - 1) = W - 1) :
    Calls Try.prog 23 #[cur r c true, bnd W H T B o] w fun e w' => e = .returned (cur (lim r 0 (H - 1)) (lim c 0 (W - 1)) true) ∧ Gr w w' := by
  have hb : (lim c 0 (W - 1) == W - 1) = true := by simpa using hq
  clear hq
  go_enter Try.func23, Try.ntmps23
  go_wp2_with (first | (go_at_call 22; refine (rcheck_yes _ _ _ _ _ _ h1 h2 h3 h4 h5 h6 h7).mono ?_; rintro e w1 ⟨rfl, hg⟩; obtain ⟨cN, fN, hc, hf, hs⟩ := hg.facts; (try simp only [World.size_alloc, World.size_drew] at hc hf hs)) | (go_at_call 32; refine (rstart_any _ _ _ _ _ _ _ _ _ h1 h2 h3 h4).mono ?_; rintro e w2 ⟨rfl, hg⟩; obtain ⟨cN, fN, hc, hf, hs⟩ := hg.facts; (try simp only [World.size_alloc, World.size_drew] at hc hf hs)))
  refine bodyPost_ret (v := cur (lim r 0 (H - 1)) (lim c 0 (W - 1)) true) (by simp [*, results, Try.results23, go_sem, ↓IntWalk.iteOmega]) rfl ⟨rfl, ?_⟩
  (repeat (first | with_reducible exact Gr.refl _ | with_reducible apply Gr.undrew | with_reducible apply Gr.undrewN | with_reducible apply Gr.drew | with_reducible apply Gr.drewN | with_reducible apply Gr.grow | with_reducible apply Gr.alloc | (with_reducible refine Gr.setCell ?_ (by first | (simp; done) | (simp; omega)) _) | with_reducible assumption | (refine Gr.trans ?_ (by with_reducible assumption))))

set_option maxHeartbeats 1000000 in
theorem rclamp_yes2 (r c : Int) (W H T B : Int) (o : Bool) (w : World) (h1 : 1 ≤ W) (h2 : W ≤ 132) (h3 : 1 ≤ H) (h4 : H ≤ 60) (h5 : 0 ≤ T) (h6 : T < B) (h7 : B ≤ H) (hq : ¬ lim c 0 (W - 1) = W - 1) :
    Calls Try.prog 23 #[cur r c true, bnd W H T B o] w fun e w' => e = .returned (cur (lim r 0 (H - 1)) (lim c 0 (W - 1)) false) ∧ Gr w w' := by
  have hb : (lim c 0 (W - 1) == W - 1) = false := by simpa using hq
  clear hq
  go_enter Try.func23, Try.ntmps23
  go_wp2_with (first | (go_at_call 22; refine (rcheck_yes _ _ _ _ _ _ h1 h2 h3 h4 h5 h6 h7).mono ?_; rintro e w1 ⟨rfl, hg⟩; obtain ⟨cN, fN, hc, hf, hs⟩ := hg.facts; (try simp only [World.size_alloc, World.size_drew] at hc hf hs)) | (go_at_call 32; refine (rstart_any _ _ _ _ _ _ _ _ _ h1 h2 h3 h4).mono ?_; rintro e w2 ⟨rfl, hg⟩; obtain ⟨cN, fN, hc, hf, hs⟩ := hg.facts; (try simp only [World.size_alloc, World.size_drew] at hc hf hs)))
  refine bodyPost_ret (v := cur (lim r 0 (H - 1)) (lim c 0 (W - 1)) false) (by simp [*, results, Try.results23, go_sem, ↓IntWalk.iteOmega]) rfl ⟨rfl, ?_⟩
  (repeat (first | with_reducible exact Gr.refl _ | with_reducible apply Gr.undrew | with_reducible apply Gr.undrewN | with_reducible apply Gr.drew | with_reducible apply Gr.drewN | with_reducible apply Gr.grow | with_reducible apply Gr.alloc | (with_reducible refine Gr.setCell ?_ (by first | (simp; done) | (simp; omega)) _) | with_reducible assumption | (refine Gr.trans ?_ (by with_reducible assumption))))

set_option maxHeartbeats 2000000 in
theorem rup_yes (r c n : Int) (p : Bool) (W H T B : Int) (o : Bool) (w : World) (h1 : 1 ≤ W) (h2 : W ≤ 132) (h3 : 1 ≤ H) (h4 : H ≤ 60) (h5 : 0 ≤ T) (h6 : T < B) (h7 : B ≤ H) :
    Calls Try.prog 24 #[cur r c p, .int .i64 n, bnd W H T B o] w fun e w' => e = .returned (cur (upRow (lim r 0 (H - 1)) n H T B) (lim c 0 (W - 1)) false) ∧ Gr w w' := by
  have b1 := lim_ge r 0 (H - 1)
  have b2 := lim_le r 0 (H - 1) (by omega)
  have b3 := lim_ge n (-1000) 1000
  have b4 := lim_le n (-1000) 1000 (by omega)
  by_cases hr : T ≤ lim r 0 (H - 1) ∧ lim r 0 (H - 1) < B
  · have hu : upRow (lim r 0 (H - 1)) n H T B = lim (lim r 0 (H - 1) - lim n (-1000) 1000) T (B - 1) := by unfold upRow; rw [if_pos hr]
    rw [hu]
    have hb : (decide (T ≤ lim r 0 (H - 1)) && decide (lim r 0 (H - 1) < B)) = true := by simp; omega
    clear hu
    go_enter Try.func24, Try.ntmps24
    go_wp2_with (first | (go_at_call 22; refine (rcheck_yes _ _ _ _ _ _ h1 h2 h3 h4 h5 h6 h7).mono ?_; rintro e w1 ⟨rfl, hg⟩; obtain ⟨cN, fN, hc, hf, hs⟩ := hg.facts; (try simp only [World.size_alloc, World.size_drew] at hc hf hs)) | (go_at_call 32; refine (rstart_any _ _ _ _ _ _ _ _ _ h1 h2 h3 h4).mono ?_; rintro e w2 ⟨rfl, hg⟩; obtain ⟨cN, fN, hc, hf, hs⟩ := hg.facts; (try simp only [World.size_alloc, World.size_drew] at hc hf hs)))
    refine wp_region_grows (by kernel_rfl) (by kernel_rfl) ?_
    repeat (first
      | go_big_quiet_skip
      | (go_big_quiet_want; go_big_quiet_op; first | go_big_quiet_on | (apply Exists.intro; refine ⟨fun _ => ?_, ?_⟩; (· (fail)); go_big_quiet_on)))
    refine wpQuiet_nil ?_
    intro w5 hg
    change Gr _ _ at hg
    obtain ⟨cN, fN, hc, hf, hs⟩ := Gr.facts hg; (try simp only [World.size_alloc, World.size_drew] at hc hf hs)
    go_wp2_with (first | (go_at_call 36; refine (rinside_any _ _ _ _ _ _ _).mono ?_; rintro e w3 ⟨rfl, hg⟩; obtain ⟨cN, fN, hc, hf, hs⟩ := hg.facts; (try simp only [World.size_alloc, World.size_drew] at hc hf hs)))
    refine wp_region_mix_tail 9 [(true, 0), (true, 1), (true, 2), (true, 5), (true, 6), (false, 3), (true, 4), (false, 7), (true, 8)] (by kernel_rfl) (by kernel_rfl) (by decide) ?_
    repeat (first
      | (refine mix_q rfl (by rfl) rfl (fun _ _ _ _ h => h) (fun K hK => ?_); go_big_quiet_op; refine hK _ ?_; clear hK K)
      | (refine mix_skip rfl (by rfl) (fun _ _ _ h => h) ?_; simp only [Act.put, List.setIfInBounds_toArray, List.set_cons_zero, List.set_cons_succ])
      | (refine mix_run rfl (by rfl) (fun K hK => ?_)
         go_wp2_with ((go_at_call 37; refine (rlimit_any _ _ _ _ (by first | decide | omega)).mono ?_; rintro e w' ⟨rfl, rfl⟩))
         refine ⟨by (repeat (first | with_reducible exact Gr.refl _ | with_reducible apply Gr.undrew | with_reducible apply Gr.undrewN | with_reducible apply Gr.drew | with_reducible apply Gr.drewN | with_reducible apply Gr.grow | with_reducible apply Gr.alloc | (with_reducible refine Gr.setCell ?_ (by first | (simp; done) | (simp; omega)) _) | with_reducible assumption | (refine Gr.trans ?_ (by with_reducible assumption)))), ?_⟩)
      | (refine mix_skip_run rfl (by rfl) (by (repeat (first | with_reducible exact Gr.refl _ | with_reducible apply Gr.undrew | with_reducible apply Gr.undrewN | with_reducible apply Gr.drew | with_reducible apply Gr.drewN | with_reducible apply Gr.grow | with_reducible apply Gr.alloc | (with_reducible refine Gr.setCell ?_ (by first | (simp; done) | (simp; omega)) _) | with_reducible assumption | (refine Gr.trans ?_ (by with_reducible assumption))))) ?_; simp only [Act.put, List.setIfInBounds_toArray, List.set_cons_zero, List.set_cons_succ]))
    refine wpMix_nil ?_
    simp only [List.drop_succ_cons, List.drop_zero]
    go_wp2
    refine bodyPost_ret (v := cur (lim (lim r 0 (H - 1) - lim n (-1000) 1000) T (B - 1)) (lim c 0 (W - 1)) false) (by simp [*, results, Try.results24, go_sem, ↓IntWalk.iteOmega]) rfl ⟨rfl, ?_⟩
    (repeat (first | with_reducible exact Gr.refl _ | with_reducible apply Gr.undrew | with_reducible apply Gr.undrewN | with_reducible apply Gr.drew | with_reducible apply Gr.drewN | with_reducible apply Gr.grow | with_reducible apply Gr.alloc | (with_reducible refine Gr.setCell ?_ (by first | (simp; done) | (simp; omega)) _) | with_reducible assumption | (refine Gr.trans ?_ (by with_reducible assumption))))
  · have hu : upRow (lim r 0 (H - 1)) n H T B = lim (lim r 0 (H - 1) - lim n (-1000) 1000) 0 (H - 1) := by unfold upRow; rw [if_neg hr]
    rw [hu]
    have hb : (decide (T ≤ lim r 0 (H - 1)) && decide (lim r 0 (H - 1) < B)) = false := by simp; omega
    clear hu hr
    go_enter Try.func24, Try.ntmps24
    go_wp2_with (first | (go_at_call 22; refine (rcheck_yes _ _ _ _ _ _ h1 h2 h3 h4 h5 h6 h7).mono ?_; rintro e w1 ⟨rfl, hg⟩; obtain ⟨cN, fN, hc, hf, hs⟩ := hg.facts; (try simp only [World.size_alloc, World.size_drew] at hc hf hs)) | (go_at_call 32; refine (rstart_any _ _ _ _ _ _ _ _ _ h1 h2 h3 h4).mono ?_; rintro e w2 ⟨rfl, hg⟩; obtain ⟨cN, fN, hc, hf, hs⟩ := hg.facts; (try simp only [World.size_alloc, World.size_drew] at hc hf hs)))
    refine wp_region_grows (by kernel_rfl) (by kernel_rfl) ?_
    repeat (first
      | go_big_quiet_skip
      | (go_big_quiet_want; go_big_quiet_op; first | go_big_quiet_on | (apply Exists.intro; refine ⟨fun _ => ?_, ?_⟩; (· (fail)); go_big_quiet_on)))
    refine wpQuiet_nil ?_
    intro w5 hg
    change Gr _ _ at hg
    obtain ⟨cN, fN, hc, hf, hs⟩ := Gr.facts hg; (try simp only [World.size_alloc, World.size_drew] at hc hf hs)
    go_wp2_with (first | (go_at_call 36; refine (rinside_any _ _ _ _ _ _ _).mono ?_; rintro e w3 ⟨rfl, hg⟩; obtain ⟨cN, fN, hc, hf, hs⟩ := hg.facts; (try simp only [World.size_alloc, World.size_drew] at hc hf hs)))
    refine wp_region_mix_tail 9 [(true, 0), (true, 1), (true, 2), (true, 5), (true, 6), (false, 3), (true, 4), (false, 7), (true, 8)] (by kernel_rfl) (by kernel_rfl) (by decide) ?_
    repeat (first
      | (refine mix_q rfl (by rfl) rfl (fun _ _ _ _ h => h) (fun K hK => ?_); go_big_quiet_op; refine hK _ ?_; clear hK K)
      | (refine mix_skip rfl (by rfl) (fun _ _ _ h => h) ?_; simp only [Act.put, List.setIfInBounds_toArray, List.set_cons_zero, List.set_cons_succ])
      | (refine mix_run rfl (by rfl) (fun K hK => ?_)
         go_wp2_with ((go_at_call 37; refine (rlimit_any _ _ _ _ (by first | decide | omega)).mono ?_; rintro e w' ⟨rfl, rfl⟩))
         refine ⟨by (repeat (first | with_reducible exact Gr.refl _ | with_reducible apply Gr.undrew | with_reducible apply Gr.undrewN | with_reducible apply Gr.drew | with_reducible apply Gr.drewN | with_reducible apply Gr.grow | with_reducible apply Gr.alloc | (with_reducible refine Gr.setCell ?_ (by first | (simp; done) | (simp; omega)) _) | with_reducible assumption | (refine Gr.trans ?_ (by with_reducible assumption)))), ?_⟩)
      | (refine mix_skip_run rfl (by rfl) (by (repeat (first | with_reducible exact Gr.refl _ | with_reducible apply Gr.undrew | with_reducible apply Gr.undrewN | with_reducible apply Gr.drew | with_reducible apply Gr.drewN | with_reducible apply Gr.grow | with_reducible apply Gr.alloc | (with_reducible refine Gr.setCell ?_ (by first | (simp; done) | (simp; omega)) _) | with_reducible assumption | (refine Gr.trans ?_ (by with_reducible assumption))))) ?_; simp only [Act.put, List.setIfInBounds_toArray, List.set_cons_zero, List.set_cons_succ]))
    refine wpMix_nil ?_
    simp only [List.drop_succ_cons, List.drop_zero]
    go_wp2
    refine bodyPost_ret (v := cur (lim (lim r 0 (H - 1) - lim n (-1000) 1000) 0 (H - 1)) (lim c 0 (W - 1)) false) (by simp [*, results, Try.results24, go_sem, ↓IntWalk.iteOmega]) rfl ⟨rfl, ?_⟩
    (repeat (first | with_reducible exact Gr.refl _ | with_reducible apply Gr.undrew | with_reducible apply Gr.undrewN | with_reducible apply Gr.drew | with_reducible apply Gr.drewN | with_reducible apply Gr.grow | with_reducible apply Gr.alloc | (with_reducible refine Gr.setCell ?_ (by first | (simp; done) | (simp; omega)) _) | with_reducible assumption | (refine Gr.trans ?_ (by with_reducible assumption))))

set_option maxHeartbeats 2000000 in
theorem rright_yes (r c n : Int) (p : Bool) (W H T B : Int) (o : Bool) (w : World) (h1 : 1 ≤ W) (h2 : W ≤ 132) (h3 : 1 ≤ H) (h4 : H ≤ 60) (h5 : 0 ≤ T) (h6 : T < B) (h7 : B ≤ H) :
    Calls Try.prog 25 #[cur r c p, .int .i64 n, bnd W H T B o] w fun e w' => e = .returned (cur (lim r 0 (H - 1)) (lim (lim c 0 (W - 1) + lim n (-1000) 1000) 0 (W - 1)) false) ∧ Gr w w' := by
  have b1 := lim_ge c 0 (W - 1)
  have b2 := lim_le c 0 (W - 1) (by omega)
  have b3 := lim_ge n (-1000) 1000
  have b4 := lim_le n (-1000) 1000 (by omega)
  go_enter Try.func25, Try.ntmps25
  go_wp2_with (first | (go_at_call 22; refine (rcheck_yes _ _ _ _ _ _ h1 h2 h3 h4 h5 h6 h7).mono ?_; rintro e w1 ⟨rfl, hg⟩; obtain ⟨cN, fN, hc, hf, hs⟩ := hg.facts; (try simp only [World.size_alloc, World.size_drew] at hc hf hs)) | (go_at_call 32; refine (rstart_any _ _ _ _ _ _ _ _ _ h1 h2 h3 h4).mono ?_; rintro e w2 ⟨rfl, hg⟩; obtain ⟨cN, fN, hc, hf, hs⟩ := hg.facts; (try simp only [World.size_alloc, World.size_drew] at hc hf hs)))
  refine wp_region_mix_tail 10 [(true, 0), (true, 1), (true, 2), (true, 5), (true, 6), (true, 7), (false, 3), (true, 4), (false, 8), (true, 9)] (by kernel_rfl) (by kernel_rfl) (by decide) ?_
  repeat (first
    | (refine mix_q rfl (by rfl) rfl (fun _ _ _ _ h => h) (fun K hK => ?_); go_big_quiet_op; refine hK _ ?_; clear hK K)
    | (refine mix_skip rfl (by rfl) (fun _ _ _ h => h) ?_; simp only [Act.put, List.setIfInBounds_toArray, List.set_cons_zero, List.set_cons_succ])
    | (refine mix_run rfl (by rfl) (fun K hK => ?_)
       go_wp2_with ((go_at_call 37; refine (rlimit_any _ _ _ _ (by first | decide | omega)).mono ?_; rintro e w' ⟨rfl, rfl⟩))
       refine ⟨by (repeat (first | with_reducible exact Gr.refl _ | with_reducible apply Gr.undrew | with_reducible apply Gr.undrewN | with_reducible apply Gr.drew | with_reducible apply Gr.drewN | with_reducible apply Gr.grow | with_reducible apply Gr.alloc | (with_reducible refine Gr.setCell ?_ (by first | (simp; done) | (simp; omega)) _) | with_reducible assumption | (refine Gr.trans ?_ (by with_reducible assumption)))), ?_⟩)
    | (refine mix_skip_run rfl (by rfl) (by (repeat (first | with_reducible exact Gr.refl _ | with_reducible apply Gr.undrew | with_reducible apply Gr.undrewN | with_reducible apply Gr.drew | with_reducible apply Gr.drewN | with_reducible apply Gr.grow | with_reducible apply Gr.alloc | (with_reducible refine Gr.setCell ?_ (by first | (simp; done) | (simp; omega)) _) | with_reducible assumption | (refine Gr.trans ?_ (by with_reducible assumption))))) ?_; simp only [Act.put, List.setIfInBounds_toArray, List.set_cons_zero, List.set_cons_succ]))
  refine wpMix_nil ?_
  simp only [List.drop_succ_cons, List.drop_zero]
  go_wp2
  refine bodyPost_ret (v := cur (lim r 0 (H - 1)) (lim (lim c 0 (W - 1) + lim n (-1000) 1000) 0 (W - 1)) false) (by simp [*, results, Try.results25, go_sem, ↓IntWalk.iteOmega]) rfl ⟨rfl, ?_⟩
  (repeat (first | with_reducible exact Gr.refl _ | with_reducible apply Gr.undrew | with_reducible apply Gr.undrewN | with_reducible apply Gr.drew | with_reducible apply Gr.drewN | with_reducible apply Gr.grow | with_reducible apply Gr.alloc | (with_reducible refine Gr.setCell ?_ (by first | (simp; done) | (simp; omega)) _) | with_reducible assumption | (refine Gr.trans ?_ (by with_reducible assumption))))

theorem feedRow_eq (r0 H T B : Int) (h5 : 0 ≤ T) (h6 : T < B) (h7 : B ≤ H) (b1 : 0 ≤ r0) (b2 : r0 ≤ H - 1) (hq : ¬ r0 = B - 1) : upRow r0 (-1) H T B = if r0 < H - 1 then r0 + 1 else r0 := by
  unfold upRow lim
  split <;> split <;> omega
theorem revRow_eq (r0 H T B : Int) (h5 : 0 ≤ T) (h6 : T < B) (h7 : B ≤ H) (b1 : 0 ≤ r0) (b2 : r0 ≤ H - 1) (hq : ¬ r0 = T) : upRow r0 1 H T B = if 0 < r0 then r0 - 1 else r0 := by
  unfold upRow lim
  split <;> split <;> omega

set_option maxHeartbeats 2000000 in
theorem rfeed_yes (r c : Int) (p : Bool) (W H T B : Int) (o : Bool) (w : World) (h1 : 1 ≤ W) (h2 : W ≤ 132) (h3 : 1 ≤ H) (h4 : H ≤ 60) (h5 : 0 ≤ T) (h6 : T < B) (h7 : B ≤ H) :
    Calls Try.prog 16 #[cur r c p, bnd W H T B o] w fun e w' => e = .returned (.tuple #[cur (upRow (lim r 0 (H - 1)) (-1) H T B) (lim c 0 (W - 1)) false, .int .i64 (if lim r 0 (H - 1) = B - 1 then 1 else 0)]) ∧ Gr w w' := by
  have b1 := lim_ge r 0 (H - 1)
  have b2 := lim_le r 0 (H - 1) (by omega)
  by_cases hq : lim r 0 (H - 1) = B - 1
  · have e3 : upRow (lim r 0 (H - 1)) (-1) H T B = lim r 0 (H - 1) := by rw [hq]; exact edgeFeed H T B h5 h6
    have t3 : (lim r 0 (H - 1) == B - 1) = true := by simpa using hq
    rw [if_pos hq, e3]
    clear e3 hq
    go_enter Try.func16, Try.ntmps16
    go_wp2_with (first | (go_at_call 22; refine (rcheck_yes _ _ _ _ _ _ h1 h2 h3 h4 h5 h6 h7).mono ?_; rintro e w1 ⟨rfl, hg⟩; obtain ⟨cN, fN, hc, hf, hs⟩ := hg.facts; (try simp only [World.size_alloc, World.size_drew] at hc hf hs)) | (go_at_call 32; refine (rstart_any _ _ _ _ _ _ _ _ _ h1 h2 h3 h4).mono ?_; rintro e w2 ⟨rfl, hg⟩; obtain ⟨cN, fN, hc, hf, hs⟩ := hg.facts; (try simp only [World.size_alloc, World.size_drew] at hc hf hs)))
    clear t3
    refine bodyPost_ret (v := .tuple #[cur (lim r 0 (H - 1)) (lim c 0 (W - 1)) false, .int .i64 1]) (by simp [*, results, Try.results16, go_sem, ↓IntWalk.iteOmega]) rfl ⟨rfl, ?_⟩
    (repeat (first | with_reducible exact Gr.refl _ | with_reducible apply Gr.undrew | with_reducible apply Gr.undrewN | with_reducible apply Gr.drew | with_reducible apply Gr.drewN | with_reducible apply Gr.grow | with_reducible apply Gr.alloc | (with_reducible refine Gr.setCell ?_ (by first | (simp; done) | (simp; omega)) _) | with_reducible assumption | (refine Gr.trans ?_ (by with_reducible assumption))))
  · have e3 := feedRow_eq (lim r 0 (H - 1)) H T B h5 h6 h7 b1 b2 hq
    have t3 : (lim r 0 (H - 1) == B - 1) = false := by simpa using hq
    rw [if_neg hq, e3]
    clear e3 hq
    by_cases hl : lim r 0 (H - 1) < H - 1
    · rw [if_pos hl]
      go_enter Try.func16, Try.ntmps16
      go_wp2_with (first | (go_at_call 22; refine (rcheck_yes _ _ _ _ _ _ h1 h2 h3 h4 h5 h6 h7).mono ?_; rintro e w1 ⟨rfl, hg⟩; obtain ⟨cN, fN, hc, hf, hs⟩ := hg.facts; (try simp only [World.size_alloc, World.size_drew] at hc hf hs)) | (go_at_call 32; refine (rstart_any _ _ _ _ _ _ _ _ _ h1 h2 h3 h4).mono ?_; rintro e w2 ⟨rfl, hg⟩; obtain ⟨cN, fN, hc, hf, hs⟩ := hg.facts; (try simp only [World.size_alloc, World.size_drew] at hc hf hs)))
      clear t3
      refine bodyPost_ret (v := .tuple #[cur (lim r 0 (H - 1) + 1) (lim c 0 (W - 1)) false, .int .i64 0]) (by simp [*, results, Try.results16, go_sem, ↓IntWalk.iteOmega]) rfl ⟨rfl, ?_⟩
      (repeat (first | with_reducible exact Gr.refl _ | with_reducible apply Gr.undrew | with_reducible apply Gr.undrewN | with_reducible apply Gr.drew | with_reducible apply Gr.drewN | with_reducible apply Gr.grow | with_reducible apply Gr.alloc | (with_reducible refine Gr.setCell ?_ (by first | (simp; done) | (simp; omega)) _) | with_reducible assumption | (refine Gr.trans ?_ (by with_reducible assumption))))
    · rw [if_neg hl]
      go_enter Try.func16, Try.ntmps16
      go_wp2_with (first | (go_at_call 22; refine (rcheck_yes _ _ _ _ _ _ h1 h2 h3 h4 h5 h6 h7).mono ?_; rintro e w1 ⟨rfl, hg⟩; obtain ⟨cN, fN, hc, hf, hs⟩ := hg.facts; (try simp only [World.size_alloc, World.size_drew] at hc hf hs)) | (go_at_call 32; refine (rstart_any _ _ _ _ _ _ _ _ _ h1 h2 h3 h4).mono ?_; rintro e w2 ⟨rfl, hg⟩; obtain ⟨cN, fN, hc, hf, hs⟩ := hg.facts; (try simp only [World.size_alloc, World.size_drew] at hc hf hs)))
      clear t3
      refine bodyPost_ret (v := .tuple #[cur (lim r 0 (H - 1)) (lim c 0 (W - 1)) false, .int .i64 0]) (by simp [*, results, Try.results16, go_sem, ↓IntWalk.iteOmega]) rfl ⟨rfl, ?_⟩
      (repeat (first | with_reducible exact Gr.refl _ | with_reducible apply Gr.undrew | with_reducible apply Gr.undrewN | with_reducible apply Gr.drew | with_reducible apply Gr.drewN | with_reducible apply Gr.grow | with_reducible apply Gr.alloc | (with_reducible refine Gr.setCell ?_ (by first | (simp; done) | (simp; omega)) _) | with_reducible assumption | (refine Gr.trans ?_ (by with_reducible assumption))))

set_option maxHeartbeats 2000000 in
theorem rreverse_yes (r c : Int) (p : Bool) (W H T B : Int) (o : Bool) (w : World) (h1 : 1 ≤ W) (h2 : W ≤ 132) (h3 : 1 ≤ H) (h4 : H ≤ 60) (h5 : 0 ≤ T) (h6 : T < B) (h7 : B ≤ H) :
    Calls Try.prog 18 #[cur r c p, bnd W H T B o] w fun e w' => e = .returned (.tuple #[cur (upRow (lim r 0 (H - 1)) 1 H T B) (lim c 0 (W - 1)) false, .int .i64 (if lim r 0 (H - 1) = T then 1 else 0)]) ∧ Gr w w' := by
  have b1 := lim_ge r 0 (H - 1)
  have b2 := lim_le r 0 (H - 1) (by omega)
  by_cases hq : lim r 0 (H - 1) = T
  · have e3 : upRow (lim r 0 (H - 1)) 1 H T B = lim r 0 (H - 1) := by rw [hq]; exact edgeReverse H T B h5 h6
    have t3 : (lim r 0 (H - 1) == T) = true := by simpa using hq
    rw [if_pos hq, e3]
    clear e3 hq
    go_enter Try.func18, Try.ntmps18
    go_wp2_with (first | (go_at_call 22; refine (rcheck_yes _ _ _ _ _ _ h1 h2 h3 h4 h5 h6 h7).mono ?_; rintro e w1 ⟨rfl, hg⟩; obtain ⟨cN, fN, hc, hf, hs⟩ := hg.facts; (try simp only [World.size_alloc, World.size_drew] at hc hf hs)) | (go_at_call 32; refine (rstart_any _ _ _ _ _ _ _ _ _ h1 h2 h3 h4).mono ?_; rintro e w2 ⟨rfl, hg⟩; obtain ⟨cN, fN, hc, hf, hs⟩ := hg.facts; (try simp only [World.size_alloc, World.size_drew] at hc hf hs)))
    clear t3
    refine bodyPost_ret (v := .tuple #[cur (lim r 0 (H - 1)) (lim c 0 (W - 1)) false, .int .i64 1]) (by simp [*, results, Try.results18, go_sem, ↓IntWalk.iteOmega]) rfl ⟨rfl, ?_⟩
    (repeat (first | with_reducible exact Gr.refl _ | with_reducible apply Gr.undrew | with_reducible apply Gr.undrewN | with_reducible apply Gr.drew | with_reducible apply Gr.drewN | with_reducible apply Gr.grow | with_reducible apply Gr.alloc | (with_reducible refine Gr.setCell ?_ (by first | (simp; done) | (simp; omega)) _) | with_reducible assumption | (refine Gr.trans ?_ (by with_reducible assumption))))
  · have e3 := revRow_eq (lim r 0 (H - 1)) H T B h5 h6 h7 b1 b2 hq
    have t3 : (lim r 0 (H - 1) == T) = false := by simpa using hq
    rw [if_neg hq, e3]
    clear e3 hq
    by_cases hl : 0 < lim r 0 (H - 1)
    · rw [if_pos hl]
      go_enter Try.func18, Try.ntmps18
      go_wp2_with (first | (go_at_call 22; refine (rcheck_yes _ _ _ _ _ _ h1 h2 h3 h4 h5 h6 h7).mono ?_; rintro e w1 ⟨rfl, hg⟩; obtain ⟨cN, fN, hc, hf, hs⟩ := hg.facts; (try simp only [World.size_alloc, World.size_drew] at hc hf hs)) | (go_at_call 32; refine (rstart_any _ _ _ _ _ _ _ _ _ h1 h2 h3 h4).mono ?_; rintro e w2 ⟨rfl, hg⟩; obtain ⟨cN, fN, hc, hf, hs⟩ := hg.facts; (try simp only [World.size_alloc, World.size_drew] at hc hf hs)))
      clear t3
      refine bodyPost_ret (v := .tuple #[cur (lim r 0 (H - 1) - 1) (lim c 0 (W - 1)) false, .int .i64 0]) (by simp [*, results, Try.results18, go_sem, ↓IntWalk.iteOmega]) rfl ⟨rfl, ?_⟩
      (repeat (first | with_reducible exact Gr.refl _ | with_reducible apply Gr.undrew | with_reducible apply Gr.undrewN | with_reducible apply Gr.drew | with_reducible apply Gr.drewN | with_reducible apply Gr.grow | with_reducible apply Gr.alloc | (with_reducible refine Gr.setCell ?_ (by first | (simp; done) | (simp; omega)) _) | with_reducible assumption | (refine Gr.trans ?_ (by with_reducible assumption))))
    · rw [if_neg hl]
      go_enter Try.func18, Try.ntmps18
      go_wp2_with (first | (go_at_call 22; refine (rcheck_yes _ _ _ _ _ _ h1 h2 h3 h4 h5 h6 h7).mono ?_; rintro e w1 ⟨rfl, hg⟩; obtain ⟨cN, fN, hc, hf, hs⟩ := hg.facts; (try simp only [World.size_alloc, World.size_drew] at hc hf hs)) | (go_at_call 32; refine (rstart_any _ _ _ _ _ _ _ _ _ h1 h2 h3 h4).mono ?_; rintro e w2 ⟨rfl, hg⟩; obtain ⟨cN, fN, hc, hf, hs⟩ := hg.facts; (try simp only [World.size_alloc, World.size_drew] at hc hf hs)))
      clear t3
      refine bodyPost_ret (v := .tuple #[cur (lim r 0 (H - 1)) (lim c 0 (W - 1)) false, .int .i64 0]) (by simp [*, results, Try.results18, go_sem, ↓IntWalk.iteOmega]) rfl ⟨rfl, ?_⟩
      (repeat (first | with_reducible exact Gr.refl _ | with_reducible apply Gr.undrew | with_reducible apply Gr.undrewN | with_reducible apply Gr.drew | with_reducible apply Gr.drewN | with_reducible apply Gr.grow | with_reducible apply Gr.alloc | (with_reducible refine Gr.setCell ?_ (by first | (simp; done) | (simp; omega)) _) | with_reducible assumption | (refine Gr.trans ?_ (by with_reducible assumption))))

end Go.Proofs.Ytghhanophenhbaa
