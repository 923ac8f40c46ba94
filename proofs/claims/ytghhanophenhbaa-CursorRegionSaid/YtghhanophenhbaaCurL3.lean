/- The walk of the law CursorRegion. -/
import Derived.Test.YtghhanophenhbaaCurF
import Derived.Test.YtghhanophenhbaaCurAw
import Derived.Test.YtghhanophenhbaaLoop
namespace Go.Proofs.Ytghhanophenhbaa
set_option linter.unusedSimpArgs false
set_option linter.unusedVariables false
set_option linter.unusedSectionVars false
open Go.RowKit
set_option linter.unusedVariables false

/-- What the three movements return from the scroll region. -/
theorem reg_three (r c n : Int) (p : Bool) (W H T B : Int) (o : Bool) (h1 : 1 ≤ W) (h2 : W ≤ 132) (h3 : 1 ≤ H) (h4 : H ≤ 60) (h5 : 0 ≤ T) (h6 : T < B) (h7 : B ≤ H) (hr1 : T ≤ r) (hr2 : r < B) (hc1 : 0 ≤ c) (hc2 : c < W) :
    ∃ a2 a5 a6 : Int, (T ≤ a2 ∧ a2 < B) ∧ (T ≤ a5 ∧ a5 < B) ∧ (T ≤ a6 ∧ a6 < B) ∧ (∀ w, Calls Try.prog 14 #[cur r c p, .int .i64 n, bnd W H T B o] w fun e w' => e = .returned (cur a2 c false) ∧ Gr w w') ∧ (∀ w, Calls Try.prog 15 #[cur r c p, bnd W H T B o] w fun e w' => e = .returned (.tuple #[cur a5 c false, .int .i64 (if r = B - 1 then 1 else 0)]) ∧ Gr w w') ∧ (∀ w, Calls Try.prog 17 #[cur r c p, bnd W H T B o] w fun e w' => e = .returned (.tuple #[cur a6 c false, .int .i64 (if r = T then 1 else 0)]) ∧ Gr w w') := by
  have e1 : lim r 0 (H - 1) = r := by unfold lim; omega
  have e2 : lim c 0 (W - 1) = c := by unfold lim; omega
  have u : ∀ n, T ≤ upRow r n H T B ∧ upRow r n H T B < B := by
    intro n
    unfold upRow
    rw [if_pos ⟨hr1, hr2⟩]
    have b1 := lim_ge (r - lim n (-1000) 1000) T (B - 1)
    have b2 := lim_le (r - lim n (-1000) 1000) T (B - 1) (by omega)
    omega
  refine ⟨_, _, _, u n, u (-1), u 1, fun w => (up_yes r c n p W H T B o w h1 h2 h3 h4 h5 h6 h7).mono fun e w' h => ⟨h.1.trans (by rw [e1, e2]), h.2⟩,
    fun w => (feed_yes r c p W H T B o w h1 h2 h3 h4 h5 h6 h7).mono fun e w' h => ⟨h.1.trans (by rw [e1, e2]), h.2⟩, fun w => (reverse_yes r c p W H T B o w h1 h2 h3 h4 h5 h6 h7).mono fun e w' h => ⟨h.1.trans (by rw [e1, e2]), h.2⟩⟩

set_option maxHeartbeats 4000000 in
theorem region_tt (r c n : Int) (p : Bool) (W H T B : Int) (o : Bool) (w : World) (h1 : 1 ≤ W) (h2 : W ≤ 132) (h3 : 1 ≤ H) (h4 : H ≤ 60) (h5 : 0 ≤ T) (h6 : T < B) (h7 : B ≤ H) (hr1 : T ≤ r) (hr2 : r < B) (hc1 : 0 ≤ c) (hc2 : c < W) (hx : r = B - 1) (hy : r = T) :
    Calls Try.prog 5 #[cur r c p, bnd W H T B o, .int .i64 n] w fun e w' => e = .returned (.bool true) ∧ Gr w w' := by
  obtain ⟨a2, a5, a6, ⟨l2, u2⟩, ⟨l5, u5⟩, ⟨l6, u6⟩, A2, A5, A6⟩ := reg_three r c n p W H T B o h1 h2 h3 h4 h5 h6 h7 hr1 hr2 hc1 hc2
  rw [if_pos hx] at A5
  rw [if_pos hy] at A6
  have t1 : (r == B - 1) = true := by simpa using hx
  have t2 : (r == T) = true := by simpa using hy
  have A2 := Lib.hid A2; have A5 := Lib.hid A5; have A6 := Lib.hid A6
  have T1 := Lib.hid t1; have T2 := Lib.hid t2
  clear hx hy t1 t2
  go_enter Try.func5, Try.ntmps5
  go_wp2_with (first | (go_at_call 11; refine (check_yes _ _ _ _ _ _ h1 h2 h3 h4 h5 h6 h7).mono ?_; rintro e w1 ⟨rfl, hg⟩; obtain ⟨cN, fN, hc, hf, hs⟩ := hg.facts; (try simp only [World.size_alloc, World.size_drew] at hc hf hs)) | (go_at_call 15; refine (A5.out _).mono ?_; rintro e w5 ⟨rfl, hg⟩; obtain ⟨cN, fN, hc, hf, hs⟩ := hg.facts; (try simp only [World.size_alloc, World.size_drew] at hc hf hs)) | (go_at_call 17; refine (A6.out _).mono ?_; rintro e w6 ⟨rfl, hg⟩; obtain ⟨cN, fN, hc, hf, hs⟩ := hg.facts; (try simp only [World.size_alloc, World.size_drew] at hc hf hs)))
  refine wp_region_mix [(true, 0), (true, 1), (true, 2), (true, 4), (true, 5), (true, 8), (false, 3), (false, 6), (true, 7)] (by kernel_rfl) (by kernel_rfl) ?_
  repeat (first
    | (refine mix_q rfl (by rfl) rfl (fun _ _ _ _ h => h) (fun K hK => ?_); go_big_quiet_op; refine hK _ ?_; clear hK K)
    | (refine mix_skip rfl (by rfl) (fun _ _ _ h => h) ?_; simp only [Act.put, List.setIfInBounds_toArray, List.set_cons_zero, List.set_cons_succ])
    | (refine mix_run rfl (by rfl) (fun K hK => ?_)
       go_wp2_with ((go_at_call 14; refine (A2.out _).mono ?_; rintro e w7 ⟨rfl, hg⟩; obtain ⟨cN, fN, hc, hf, hs⟩ := hg.facts; (try simp only [World.size_alloc, World.size_drew] at hc hf hs)))
       refine ⟨by (repeat (first | with_reducible exact Gr.refl _ | with_reducible apply Gr.undrew | with_reducible apply Gr.undrewN | with_reducible apply Gr.drew | with_reducible apply Gr.drewN | with_reducible apply Gr.grow | with_reducible apply Gr.alloc | (with_reducible refine Gr.setCell ?_ (by first | (simp; done) | (simp; omega)) _) | with_reducible assumption | (refine Gr.trans ?_ (by with_reducible assumption)))), ?_⟩)
    | (refine mix_skip_run rfl (by rfl) (by (repeat (first | with_reducible exact Gr.refl _ | with_reducible apply Gr.undrew | with_reducible apply Gr.undrewN | with_reducible apply Gr.drew | with_reducible apply Gr.drewN | with_reducible apply Gr.grow | with_reducible apply Gr.alloc | (with_reducible refine Gr.setCell ?_ (by first | (simp; done) | (simp; omega)) _) | with_reducible assumption | (refine Gr.trans ?_ (by with_reducible assumption))))) ?_; simp only [Act.put, List.setIfInBounds_toArray, List.set_cons_zero, List.set_cons_succ]))
  refine wpMix_nil ?_
  go_wp2_with fail
  refine wp_grown ?_
  intro W0 hg0
  have hg := hg0
  obtain ⟨cN, fN, hc, hf, hs⟩ := hg.facts; (try simp only [World.size_alloc, World.size_drew] at hc hf hs)
  go_loopw [63] (fun i wr => ∃ k : Int, 0 ≤ k ∧ k ≤ 3 ∧ i = .int .i64 k ∧ Gr W0 wr) (fun i _ => (3 - intOf i).toNat)
  case atStart => exact ⟨0, by omega, by omega, rfl, Gr.refl _⟩
  case round =>
    obtain ⟨k, k0, k3, rfl, hgr⟩ := hrel
    obtain ⟨cN, fN, hc, hf, hs⟩ := hgr.facts
    by_cases hk : k = 3
    · subst hk
      have t1 := T1.out
      have t2 := T2.out
      clear T1 T2
      go_wp2_with (first | (go_at_call 12; refine (awake_any _).mono ?_; rintro e w9 ⟨rfl, hg⟩; obtain ⟨cN, fN, hc, hf, hs⟩ := hg.facts; (try simp only [World.size_alloc, World.size_drew] at hc hf hs)))
      go_ret
      refine ⟨rfl, ?_⟩
      (repeat (first | with_reducible exact Gr.refl _ | with_reducible apply Gr.undrew | with_reducible apply Gr.undrewN | with_reducible apply Gr.drew | with_reducible apply Gr.drewN | with_reducible apply Gr.grow | with_reducible apply Gr.alloc | (with_reducible refine Gr.setCell ?_ (by first | (simp; done) | (simp; omega)) _) | with_reducible assumption | (refine Gr.trans ?_ (by with_reducible assumption))))
    · have hk' : k = 0 ∨ k = 1 ∨ k = 2 := by omega
      clear hk T1 T2
      rcases hk' with rfl | rfl | rfl
      all_goals
        go_wp2
        go_roundw
        case rel => exact ⟨_, by decide, by decide, rfl, by (repeat (first | with_reducible exact Gr.refl _ | with_reducible apply Gr.undrew | with_reducible apply Gr.undrewN | with_reducible apply Gr.drew | with_reducible apply Gr.drewN | with_reducible apply Gr.grow | with_reducible apply Gr.alloc | (with_reducible refine Gr.setCell ?_ (by first | (simp; done) | (simp; omega)) _) | with_reducible assumption | (refine Gr.trans ?_ (by with_reducible assumption))))⟩
        case measure => simp [intOf]

set_option maxHeartbeats 4000000 in
theorem region_tf (r c n : Int) (p : Bool) (W H T B : Int) (o : Bool) (w : World) (h1 : 1 ≤ W) (h2 : W ≤ 132) (h3 : 1 ≤ H) (h4 : H ≤ 60) (h5 : 0 ≤ T) (h6 : T < B) (h7 : B ≤ H) (hr1 : T ≤ r) (hr2 : r < B) (hc1 : 0 ≤ c) (hc2 : c < W) (hx : r = B - 1) (hy : ¬ r = T) :
    Calls Try.prog 5 #[cur r c p, bnd W H T B o, .int .i64 n] w fun e w' => e = .returned (.bool true) ∧ Gr w w' := by
  obtain ⟨a2, a5, a6, ⟨l2, u2⟩, ⟨l5, u5⟩, ⟨l6, u6⟩, A2, A5, A6⟩ := reg_three r c n p W H T B o h1 h2 h3 h4 h5 h6 h7 hr1 hr2 hc1 hc2
  rw [if_pos hx] at A5
  rw [if_neg hy] at A6
  have t1 : (r == B - 1) = true := by simpa using hx
  have t2 : (r == T) = false := by simpa using hy
  have A2 := Lib.hid A2; have A5 := Lib.hid A5; have A6 := Lib.hid A6
  have T1 := Lib.hid t1; have T2 := Lib.hid t2
  clear hx hy t1 t2
  go_enter Try.func5, Try.ntmps5
  go_wp2_with (first | (go_at_call 11; refine (check_yes _ _ _ _ _ _ h1 h2 h3 h4 h5 h6 h7).mono ?_; rintro e w1 ⟨rfl, hg⟩; obtain ⟨cN, fN, hc, hf, hs⟩ := hg.facts; (try simp only [World.size_alloc, World.size_drew] at hc hf hs)) | (go_at_call 15; refine (A5.out _).mono ?_; rintro e w5 ⟨rfl, hg⟩; obtain ⟨cN, fN, hc, hf, hs⟩ := hg.facts; (try simp only [World.size_alloc, World.size_drew] at hc hf hs)) | (go_at_call 17; refine (A6.out _).mono ?_; rintro e w6 ⟨rfl, hg⟩; obtain ⟨cN, fN, hc, hf, hs⟩ := hg.facts; (try simp only [World.size_alloc, World.size_drew] at hc hf hs)))
  refine wp_region_mix [(true, 0), (true, 1), (true, 2), (true, 4), (true, 5), (true, 8), (false, 3), (false, 6), (true, 7)] (by kernel_rfl) (by kernel_rfl) ?_
  repeat (first
    | (refine mix_q rfl (by rfl) rfl (fun _ _ _ _ h => h) (fun K hK => ?_); go_big_quiet_op; refine hK _ ?_; clear hK K)
    | (refine mix_skip rfl (by rfl) (fun _ _ _ h => h) ?_; simp only [Act.put, List.setIfInBounds_toArray, List.set_cons_zero, List.set_cons_succ])
    | (refine mix_run rfl (by rfl) (fun K hK => ?_)
       go_wp2_with ((go_at_call 14; refine (A2.out _).mono ?_; rintro e w7 ⟨rfl, hg⟩; obtain ⟨cN, fN, hc, hf, hs⟩ := hg.facts; (try simp only [World.size_alloc, World.size_drew] at hc hf hs)))
       refine ⟨by (repeat (first | with_reducible exact Gr.refl _ | with_reducible apply Gr.undrew | with_reducible apply Gr.undrewN | with_reducible apply Gr.drew | with_reducible apply Gr.drewN | with_reducible apply Gr.grow | with_reducible apply Gr.alloc | (with_reducible refine Gr.setCell ?_ (by first | (simp; done) | (simp; omega)) _) | with_reducible assumption | (refine Gr.trans ?_ (by with_reducible assumption)))), ?_⟩)
    | (refine mix_skip_run rfl (by rfl) (by (repeat (first | with_reducible exact Gr.refl _ | with_reducible apply Gr.undrew | with_reducible apply Gr.undrewN | with_reducible apply Gr.drew | with_reducible apply Gr.drewN | with_reducible apply Gr.grow | with_reducible apply Gr.alloc | (with_reducible refine Gr.setCell ?_ (by first | (simp; done) | (simp; omega)) _) | with_reducible assumption | (refine Gr.trans ?_ (by with_reducible assumption))))) ?_; simp only [Act.put, List.setIfInBounds_toArray, List.set_cons_zero, List.set_cons_succ]))
  refine wpMix_nil ?_
  go_wp2_with fail
  refine wp_grown ?_
  intro W0 hg0
  have hg := hg0
  obtain ⟨cN, fN, hc, hf, hs⟩ := hg.facts; (try simp only [World.size_alloc, World.size_drew] at hc hf hs)
  go_loopw [63] (fun i wr => ∃ k : Int, 0 ≤ k ∧ k ≤ 3 ∧ i = .int .i64 k ∧ Gr W0 wr) (fun i _ => (3 - intOf i).toNat)
  case atStart => exact ⟨0, by omega, by omega, rfl, Gr.refl _⟩
  case round =>
    obtain ⟨k, k0, k3, rfl, hgr⟩ := hrel
    obtain ⟨cN, fN, hc, hf, hs⟩ := hgr.facts
    by_cases hk : k = 3
    · subst hk
      have t1 := T1.out
      have t2 := T2.out
      clear T1 T2
      go_wp2_with (first | (go_at_call 12; refine (awake_any _).mono ?_; rintro e w9 ⟨rfl, hg⟩; obtain ⟨cN, fN, hc, hf, hs⟩ := hg.facts; (try simp only [World.size_alloc, World.size_drew] at hc hf hs)))
      go_ret
      refine ⟨rfl, ?_⟩
      (repeat (first | with_reducible exact Gr.refl _ | with_reducible apply Gr.undrew | with_reducible apply Gr.undrewN | with_reducible apply Gr.drew | with_reducible apply Gr.drewN | with_reducible apply Gr.grow | with_reducible apply Gr.alloc | (with_reducible refine Gr.setCell ?_ (by first | (simp; done) | (simp; omega)) _) | with_reducible assumption | (refine Gr.trans ?_ (by with_reducible assumption))))
    · have hk' : k = 0 ∨ k = 1 ∨ k = 2 := by omega
      clear hk T1 T2
      rcases hk' with rfl | rfl | rfl
      all_goals
        go_wp2
        go_roundw
        case rel => exact ⟨_, by decide, by decide, rfl, by (repeat (first | with_reducible exact Gr.refl _ | with_reducible apply Gr.undrew | with_reducible apply Gr.undrewN | with_reducible apply Gr.drew | with_reducible apply Gr.drewN | with_reducible apply Gr.grow | with_reducible apply Gr.alloc | (with_reducible refine Gr.setCell ?_ (by first | (simp; done) | (simp; omega)) _) | with_reducible assumption | (refine Gr.trans ?_ (by with_reducible assumption))))⟩
        case measure => simp [intOf]

set_option maxHeartbeats 4000000 in
theorem region_ft (r c n : Int) (p : Bool) (W H T B : Int) (o : Bool) (w : World) (h1 : 1 ≤ W) (h2 : W ≤ 132) (h3 : 1 ≤ H) (h4 : H ≤ 60) (h5 : 0 ≤ T) (h6 : T < B) (h7 : B ≤ H) (hr1 : T ≤ r) (hr2 : r < B) (hc1 : 0 ≤ c) (hc2 : c < W) (hx : ¬ r = B - 1) (hy : r = T) :
    Calls Try.prog 5 #[cur r c p, bnd W H T B o, .int .i64 n] w fun e w' => e = .returned (.bool true) ∧ Gr w w' := by
  obtain ⟨a2, a5, a6, ⟨l2, u2⟩, ⟨l5, u5⟩, ⟨l6, u6⟩, A2, A5, A6⟩ := reg_three r c n p W H T B o h1 h2 h3 h4 h5 h6 h7 hr1 hr2 hc1 hc2
  rw [if_neg hx] at A5
  rw [if_pos hy] at A6
  have t1 : (r == B - 1) = false := by simpa using hx
  have t2 : (r == T) = true := by simpa using hy
  have A2 := Lib.hid A2; have A5 := Lib.hid A5; have A6 := Lib.hid A6
  have T1 := Lib.hid t1; have T2 := Lib.hid t2
  clear hx hy t1 t2
  go_enter Try.func5, Try.ntmps5
  go_wp2_with (first | (go_at_call 11; refine (check_yes _ _ _ _ _ _ h1 h2 h3 h4 h5 h6 h7).mono ?_; rintro e w1 ⟨rfl, hg⟩; obtain ⟨cN, fN, hc, hf, hs⟩ := hg.facts; (try simp only [World.size_alloc, World.size_drew] at hc hf hs)) | (go_at_call 15; refine (A5.out _).mono ?_; rintro e w5 ⟨rfl, hg⟩; obtain ⟨cN, fN, hc, hf, hs⟩ := hg.facts; (try simp only [World.size_alloc, World.size_drew] at hc hf hs)) | (go_at_call 17; refine (A6.out _).mono ?_; rintro e w6 ⟨rfl, hg⟩; obtain ⟨cN, fN, hc, hf, hs⟩ := hg.facts; (try simp only [World.size_alloc, World.size_drew] at hc hf hs)))
  refine wp_region_mix [(true, 0), (true, 1), (true, 2), (true, 4), (true, 5), (true, 8), (false, 3), (false, 6), (true, 7)] (by kernel_rfl) (by kernel_rfl) ?_
  repeat (first
    | (refine mix_q rfl (by rfl) rfl (fun _ _ _ _ h => h) (fun K hK => ?_); go_big_quiet_op; refine hK _ ?_; clear hK K)
    | (refine mix_skip rfl (by rfl) (fun _ _ _ h => h) ?_; simp only [Act.put, List.setIfInBounds_toArray, List.set_cons_zero, List.set_cons_succ])
    | (refine mix_run rfl (by rfl) (fun K hK => ?_)
       go_wp2_with ((go_at_call 14; refine (A2.out _).mono ?_; rintro e w7 ⟨rfl, hg⟩; obtain ⟨cN, fN, hc, hf, hs⟩ := hg.facts; (try simp only [World.size_alloc, World.size_drew] at hc hf hs)))
       refine ⟨by (repeat (first | with_reducible exact Gr.refl _ | with_reducible apply Gr.undrew | with_reducible apply Gr.undrewN | with_reducible apply Gr.drew | with_reducible apply Gr.drewN | with_reducible apply Gr.grow | with_reducible apply Gr.alloc | (with_reducible refine Gr.setCell ?_ (by first | (simp; done) | (simp; omega)) _) | with_reducible assumption | (refine Gr.trans ?_ (by with_reducible assumption)))), ?_⟩)
    | (refine mix_skip_run rfl (by rfl) (by (repeat (first | with_reducible exact Gr.refl _ | with_reducible apply Gr.undrew | with_reducible apply Gr.undrewN | with_reducible apply Gr.drew | with_reducible apply Gr.drewN | with_reducible apply Gr.grow | with_reducible apply Gr.alloc | (with_reducible refine Gr.setCell ?_ (by first | (simp; done) | (simp; omega)) _) | with_reducible assumption | (refine Gr.trans ?_ (by with_reducible assumption))))) ?_; simp only [Act.put, List.setIfInBounds_toArray, List.set_cons_zero, List.set_cons_succ]))
  refine wpMix_nil ?_
  go_wp2_with fail
  refine wp_grown ?_
  intro W0 hg0
  have hg := hg0
  obtain ⟨cN, fN, hc, hf, hs⟩ := hg.facts; (try simp only [World.size_alloc, World.size_drew] at hc hf hs)
  go_loopw [63] (fun i wr => ∃ k : Int, 0 ≤ k ∧ k ≤ 3 ∧ i = .int .i64 k ∧ Gr W0 wr) (fun i _ => (3 - intOf i).toNat)
  case atStart => exact ⟨0, by omega, by omega, rfl, Gr.refl _⟩
  case round =>
    obtain ⟨k, k0, k3, rfl, hgr⟩ := hrel
    obtain ⟨cN, fN, hc, hf, hs⟩ := hgr.facts
    by_cases hk : k = 3
    · subst hk
      have t1 := T1.out
      have t2 := T2.out
      clear T1 T2
      go_wp2_with (first | (go_at_call 12; refine (awake_any _).mono ?_; rintro e w9 ⟨rfl, hg⟩; obtain ⟨cN, fN, hc, hf, hs⟩ := hg.facts; (try simp only [World.size_alloc, World.size_drew] at hc hf hs)))
      go_ret
      refine ⟨rfl, ?_⟩
      (repeat (first | with_reducible exact Gr.refl _ | with_reducible apply Gr.undrew | with_reducible apply Gr.undrewN | with_reducible apply Gr.drew | with_reducible apply Gr.drewN | with_reducible apply Gr.grow | with_reducible apply Gr.alloc | (with_reducible refine Gr.setCell ?_ (by first | (simp; done) | (simp; omega)) _) | with_reducible assumption | (refine Gr.trans ?_ (by with_reducible assumption))))
    · have hk' : k = 0 ∨ k = 1 ∨ k = 2 := by omega
      clear hk T1 T2
      rcases hk' with rfl | rfl | rfl
      all_goals
        go_wp2
        go_roundw
        case rel => exact ⟨_, by decide, by decide, rfl, by (repeat (first | with_reducible exact Gr.refl _ | with_reducible apply Gr.undrew | with_reducible apply Gr.undrewN | with_reducible apply Gr.drew | with_reducible apply Gr.drewN | with_reducible apply Gr.grow | with_reducible apply Gr.alloc | (with_reducible refine Gr.setCell ?_ (by first | (simp; done) | (simp; omega)) _) | with_reducible assumption | (refine Gr.trans ?_ (by with_reducible assumption))))⟩
        case measure => simp [intOf]

set_option maxHeartbeats 4000000 in
theorem region_ff (r c n : Int) (p : Bool) (W H T B : Int) (o : Bool) (w : World) (h1 : 1 ≤ W) (h2 : W ≤ 132) (h3 : 1 ≤ H) (h4 : H ≤ 60) (h5 : 0 ≤ T) (h6 : T < B) (h7 : B ≤ H) (hr1 : T ≤ r) (hr2 : r < B) (hc1 : 0 ≤ c) (hc2 : c < W) (hx : ¬ r = B - 1) (hy : ¬ r = T) :
    Calls Try.prog 5 #[cur r c p, bnd W H T B o, .int .i64 n] w fun e w' => e = .returned (.bool true) ∧ Gr w w' := by
  obtain ⟨a2, a5, a6, ⟨l2, u2⟩, ⟨l5, u5⟩, ⟨l6, u6⟩, A2, A5, A6⟩ := reg_three r c n p W H T B o h1 h2 h3 h4 h5 h6 h7 hr1 hr2 hc1 hc2
  rw [if_neg hx] at A5
  rw [if_neg hy] at A6
  have t1 : (r == B - 1) = false := by simpa using hx
  have t2 : (r == T) = false := by simpa using hy
  have A2 := Lib.hid A2; have A5 := Lib.hid A5; have A6 := Lib.hid A6
  have T1 := Lib.hid t1; have T2 := Lib.hid t2
  clear hx hy t1 t2
  go_enter Try.func5, Try.ntmps5
  go_wp2_with (first | (go_at_call 11; refine (check_yes _ _ _ _ _ _ h1 h2 h3 h4 h5 h6 h7).mono ?_; rintro e w1 ⟨rfl, hg⟩; obtain ⟨cN, fN, hc, hf, hs⟩ := hg.facts; (try simp only [World.size_alloc, World.size_drew] at hc hf hs)) | (go_at_call 15; refine (A5.out _).mono ?_; rintro e w5 ⟨rfl, hg⟩; obtain ⟨cN, fN, hc, hf, hs⟩ := hg.facts; (try simp only [World.size_alloc, World.size_drew] at hc hf hs)) | (go_at_call 17; refine (A6.out _).mono ?_; rintro e w6 ⟨rfl, hg⟩; obtain ⟨cN, fN, hc, hf, hs⟩ := hg.facts; (try simp only [World.size_alloc, World.size_drew] at hc hf hs)))
  refine wp_region_mix [(true, 0), (true, 1), (true, 2), (true, 4), (true, 5), (true, 8), (false, 3), (false, 6), (true, 7)] (by kernel_rfl) (by kernel_rfl) ?_
  repeat (first
    | (refine mix_q rfl (by rfl) rfl (fun _ _ _ _ h => h) (fun K hK => ?_); go_big_quiet_op; refine hK _ ?_; clear hK K)
    | (refine mix_skip rfl (by rfl) (fun _ _ _ h => h) ?_; simp only [Act.put, List.setIfInBounds_toArray, List.set_cons_zero, List.set_cons_succ])
    | (refine mix_run rfl (by rfl) (fun K hK => ?_)
       go_wp2_with ((go_at_call 14; refine (A2.out _).mono ?_; rintro e w7 ⟨rfl, hg⟩; obtain ⟨cN, fN, hc, hf, hs⟩ := hg.facts; (try simp only [World.size_alloc, World.size_drew] at hc hf hs)))
       refine ⟨by (repeat (first | with_reducible exact Gr.refl _ | with_reducible apply Gr.undrew | with_reducible apply Gr.undrewN | with_reducible apply Gr.drew | with_reducible apply Gr.drewN | with_reducible apply Gr.grow | with_reducible apply Gr.alloc | (with_reducible refine Gr.setCell ?_ (by first | (simp; done) | (simp; omega)) _) | with_reducible assumption | (refine Gr.trans ?_ (by with_reducible assumption)))), ?_⟩)
    | (refine mix_skip_run rfl (by rfl) (by (repeat (first | with_reducible exact Gr.refl _ | with_reducible apply Gr.undrew | with_reducible apply Gr.undrewN | with_reducible apply Gr.drew | with_reducible apply Gr.drewN | with_reducible apply Gr.grow | with_reducible apply Gr.alloc | (with_reducible refine Gr.setCell ?_ (by first | (simp; done) | (simp; omega)) _) | with_reducible assumption | (refine Gr.trans ?_ (by with_reducible assumption))))) ?_; simp only [Act.put, List.setIfInBounds_toArray, List.set_cons_zero, List.set_cons_succ]))
  refine wpMix_nil ?_
  go_wp2_with fail
  refine wp_grown ?_
  intro W0 hg0
  have hg := hg0
  obtain ⟨cN, fN, hc, hf, hs⟩ := hg.facts; (try simp only [World.size_alloc, World.size_drew] at hc hf hs)
  go_loopw [63] (fun i wr => ∃ k : Int, 0 ≤ k ∧ k ≤ 3 ∧ i = .int .i64 k ∧ Gr W0 wr) (fun i _ => (3 - intOf i).toNat)
  case atStart => exact ⟨0, by omega, by omega, rfl, Gr.refl _⟩
  case round =>
    obtain ⟨k, k0, k3, rfl, hgr⟩ := hrel
    obtain ⟨cN, fN, hc, hf, hs⟩ := hgr.facts
    by_cases hk : k = 3
    · subst hk
      have t1 := T1.out
      have t2 := T2.out
      clear T1 T2
      go_wp2_with (first | (go_at_call 12; refine (awake_any _).mono ?_; rintro e w9 ⟨rfl, hg⟩; obtain ⟨cN, fN, hc, hf, hs⟩ := hg.facts; (try simp only [World.size_alloc, World.size_drew] at hc hf hs)))
      go_ret
      refine ⟨rfl, ?_⟩
      (repeat (first | with_reducible exact Gr.refl _ | with_reducible apply Gr.undrew | with_reducible apply Gr.undrewN | with_reducible apply Gr.drew | with_reducible apply Gr.drewN | with_reducible apply Gr.grow | with_reducible apply Gr.alloc | (with_reducible refine Gr.setCell ?_ (by first | (simp; done) | (simp; omega)) _) | with_reducible assumption | (refine Gr.trans ?_ (by with_reducible assumption))))
    · have hk' : k = 0 ∨ k = 1 ∨ k = 2 := by omega
      clear hk T1 T2
      rcases hk' with rfl | rfl | rfl
      all_goals
        go_wp2
        go_roundw
        case rel => exact ⟨_, by decide, by decide, rfl, by (repeat (first | with_reducible exact Gr.refl _ | with_reducible apply Gr.undrew | with_reducible apply Gr.undrewN | with_reducible apply Gr.drew | with_reducible apply Gr.drewN | with_reducible apply Gr.grow | with_reducible apply Gr.alloc | (with_reducible refine Gr.setCell ?_ (by first | (simp; done) | (simp; omega)) _) | with_reducible assumption | (refine Gr.trans ?_ (by with_reducible assumption))))⟩
        case measure => simp [intOf]

set_option maxHeartbeats 4000000 in
theorem walk_CursorRegion (r c : Int) (p : Bool) (W H T B : Int) (o : Bool) (n : Int) (wn : (Lit.int .i64 n).wf = true) (w : World) :
    Calls Try.prog 5 #[cur r c p, bnd W H T B o, .int .i64 n] w fun e w' => e = .returned (.bool true) ∧ Gr w w' := by
  clear wn
  by_cases hok : okB W H T B
  · obtain ⟨h1, h2, h3, h4, h5, h6, h7⟩ := hok
    by_cases hin : T ≤ r ∧ r < B ∧ 0 ≤ c ∧ c < W
    · obtain ⟨hr1, hr2, hc1, hc2⟩ := hin
      by_cases hx : r = B - 1
      · by_cases hy : r = T
        · exact region_tt r c n p W H T B o w h1 h2 h3 h4 h5 h6 h7 hr1 hr2 hc1 hc2 hx hy
        · exact region_tf r c n p W H T B o w h1 h2 h3 h4 h5 h6 h7 hr1 hr2 hc1 hc2 hx hy
      · by_cases hy : r = T
        · exact region_ft r c n p W H T B o w h1 h2 h3 h4 h5 h6 h7 hr1 hr2 hc1 hc2 hx hy
        · exact region_ff r c n p W H T B o w h1 h2 h3 h4 h5 h6 h7 hr1 hr2 hc1 hc2 hx hy
    · by_cases g1 : T ≤ r
      · by_cases g2 : r < B
        · by_cases g3 : 0 ≤ c
          · have g4 : W ≤ c := by omega
            clear hin
            go_enter Try.func5, Try.ntmps5
            go_wp2_with (first | (go_at_call 11; refine (check_yes _ _ _ _ _ _ h1 h2 h3 h4 h5 h6 h7).mono ?_; rintro e w1 ⟨rfl, hg⟩; obtain ⟨cN, fN, hc, hf, hs⟩ := hg.facts; (try simp only [World.size_alloc, World.size_drew] at hc hf hs)) | (go_at_call 12; refine (awake_any _).mono ?_; rintro e w9 ⟨rfl, hg⟩; obtain ⟨cN, fN, hc, hf, hs⟩ := hg.facts; (try simp only [World.size_alloc, World.size_drew] at hc hf hs)))
            go_ret
            refine ⟨rfl, ?_⟩
            (repeat (first | with_reducible exact Gr.refl _ | with_reducible apply Gr.undrew | with_reducible apply Gr.undrewN | with_reducible apply Gr.drew | with_reducible apply Gr.drewN | with_reducible apply Gr.grow | with_reducible apply Gr.alloc | (with_reducible refine Gr.setCell ?_ (by first | (simp; done) | (simp; omega)) _) | with_reducible assumption | (refine Gr.trans ?_ (by with_reducible assumption))))
          · clear hin
            go_enter Try.func5, Try.ntmps5
            go_wp2_with (first | (go_at_call 11; refine (check_yes _ _ _ _ _ _ h1 h2 h3 h4 h5 h6 h7).mono ?_; rintro e w1 ⟨rfl, hg⟩; obtain ⟨cN, fN, hc, hf, hs⟩ := hg.facts; (try simp only [World.size_alloc, World.size_drew] at hc hf hs)) | (go_at_call 12; refine (awake_any _).mono ?_; rintro e w9 ⟨rfl, hg⟩; obtain ⟨cN, fN, hc, hf, hs⟩ := hg.facts; (try simp only [World.size_alloc, World.size_drew] at hc hf hs)))
            go_ret
            refine ⟨rfl, ?_⟩
            (repeat (first | with_reducible exact Gr.refl _ | with_reducible apply Gr.undrew | with_reducible apply Gr.undrewN | with_reducible apply Gr.drew | with_reducible apply Gr.drewN | with_reducible apply Gr.grow | with_reducible apply Gr.alloc | (with_reducible refine Gr.setCell ?_ (by first | (simp; done) | (simp; omega)) _) | with_reducible assumption | (refine Gr.trans ?_ (by with_reducible assumption))))
        · clear hin
          go_enter Try.func5, Try.ntmps5
          go_wp2_with (first | (go_at_call 11; refine (check_yes _ _ _ _ _ _ h1 h2 h3 h4 h5 h6 h7).mono ?_; rintro e w1 ⟨rfl, hg⟩; obtain ⟨cN, fN, hc, hf, hs⟩ := hg.facts; (try simp only [World.size_alloc, World.size_drew] at hc hf hs)) | (go_at_call 12; refine (awake_any _).mono ?_; rintro e w9 ⟨rfl, hg⟩; obtain ⟨cN, fN, hc, hf, hs⟩ := hg.facts; (try simp only [World.size_alloc, World.size_drew] at hc hf hs)))
          go_ret
          refine ⟨rfl, ?_⟩
          (repeat (first | with_reducible exact Gr.refl _ | with_reducible apply Gr.undrew | with_reducible apply Gr.undrewN | with_reducible apply Gr.drew | with_reducible apply Gr.drewN | with_reducible apply Gr.grow | with_reducible apply Gr.alloc | (with_reducible refine Gr.setCell ?_ (by first | (simp; done) | (simp; omega)) _) | with_reducible assumption | (refine Gr.trans ?_ (by with_reducible assumption))))
      · clear hin
        go_enter Try.func5, Try.ntmps5
        go_wp2_with (first | (go_at_call 11; refine (check_yes _ _ _ _ _ _ h1 h2 h3 h4 h5 h6 h7).mono ?_; rintro e w1 ⟨rfl, hg⟩; obtain ⟨cN, fN, hc, hf, hs⟩ := hg.facts; (try simp only [World.size_alloc, World.size_drew] at hc hf hs)) | (go_at_call 12; refine (awake_any _).mono ?_; rintro e w9 ⟨rfl, hg⟩; obtain ⟨cN, fN, hc, hf, hs⟩ := hg.facts; (try simp only [World.size_alloc, World.size_drew] at hc hf hs)))
        go_ret
        refine ⟨rfl, ?_⟩
        (repeat (first | with_reducible exact Gr.refl _ | with_reducible apply Gr.undrew | with_reducible apply Gr.undrewN | with_reducible apply Gr.drew | with_reducible apply Gr.drewN | with_reducible apply Gr.grow | with_reducible apply Gr.alloc | (with_reducible refine Gr.setCell ?_ (by first | (simp; done) | (simp; omega)) _) | with_reducible assumption | (refine Gr.trans ?_ (by with_reducible assumption))))
  · go_enter Try.func5, Try.ntmps5
    go_wp2_with (first | (go_at_call 11; refine (check_no _ _ _ _ _ _ hok).mono ?_; rintro e w1 ⟨rfl, hg⟩; obtain ⟨cN, fN, hc, hf, hs⟩ := hg.facts; (try simp only [World.size_alloc, World.size_drew] at hc hf hs)) | (go_at_call 12; refine (awake_any _).mono ?_; rintro e w9 ⟨rfl, hg⟩; obtain ⟨cN, fN, hc, hf, hs⟩ := hg.facts; (try simp only [World.size_alloc, World.size_drew] at hc hf hs)))
    go_ret
    refine ⟨rfl, ?_⟩
    (repeat (first | with_reducible exact Gr.refl _ | with_reducible apply Gr.undrew | with_reducible apply Gr.undrewN | with_reducible apply Gr.drew | with_reducible apply Gr.drewN | with_reducible apply Gr.grow | with_reducible apply Gr.alloc | (with_reducible refine Gr.setCell ?_ (by first | (simp; done) | (simp; omega)) _) | with_reducible assumption | (refine Gr.trans ?_ (by with_reducible assumption))))

end Go.Proofs.Ytghhanophenhbaa
