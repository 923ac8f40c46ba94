/- The walk of the law CursorInside. -/
import Derived.Test.YtghhanophenhbaaCurF
import Derived.Test.YtghhanophenhbaaCurAw
import Derived.Test.YtghhanophenhbaaLoop
namespace Go.Proofs.Ytghhanophenhbaa
set_option linter.unusedSimpArgs false
set_option linter.unusedVariables false
set_option linter.unusedSectionVars false
open Go.RowKit
set_option linter.unusedVariables false

/-- The law's own test of a cursor that is inside. -/
theorem linside_any (a b W H T B : Int) (o : Bool) (w : World) (a0 : 0 ≤ a) (a1 : a < H) (b0 : 0 ≤ b) (b1 : b < W) :
    Calls Try.prog 21 #[cur a b false, bnd W H T B o] w fun e w' => e = .returned (.bool true) ∧ Gr w w' := by
  go_enter Try.func21, Try.ntmps21
  go_wp2
  go_ret
  refine ⟨rfl, ?_⟩
  (repeat (first | with_reducible exact Gr.refl _ | with_reducible apply Gr.undrew | with_reducible apply Gr.undrewN | with_reducible apply Gr.drew | with_reducible apply Gr.drewN | with_reducible apply Gr.grow | with_reducible apply Gr.alloc | (with_reducible refine Gr.setCell ?_ (by first | (simp; done) | (simp; omega)) _) | with_reducible assumption | (refine Gr.trans ?_ (by with_reducible assumption))))

/-- What the five movements return. -/
theorem ins_five (r c n m : Int) (p : Bool) (W H T B : Int) (o : Bool) (h1 : 1 ≤ W) (h2 : W ≤ 132) (h3 : 1 ≤ H) (h4 : H ≤ 60) (h5 : 0 ≤ T) (h6 : T < B) (h7 : B ≤ H) :
    ∃ a2 b2 a3 b3 a4 b4 a5 b5 a6 b6 i k : Int, ((0 ≤ a2 ∧ a2 < H ∧ 0 ≤ b2 ∧ b2 < W) ∧ (0 ≤ a3 ∧ a3 < H ∧ 0 ≤ b3 ∧ b3 < W) ∧ (0 ≤ a4 ∧ a4 < H ∧ 0 ≤ b4 ∧ b4 < W) ∧ (0 ≤ a5 ∧ a5 < H ∧ 0 ≤ b5 ∧ b5 < W) ∧ (0 ≤ a6 ∧ a6 < H ∧ 0 ≤ b6 ∧ b6 < W)) ∧ (0 ≤ i ∧ i ≤ 1 ∧ 0 ≤ k ∧ k ≤ 1) ∧ (∀ w, Calls Try.prog 14 #[cur r c p, .int .i64 n, bnd W H T B o] w fun e w' => e = .returned (cur a2 b2 false) ∧ Gr w w') ∧ (∀ w, Calls Try.prog 13 #[cur r c p, .int .i64 n, bnd W H T B o] w fun e w' => e = .returned (cur a3 b3 false) ∧ Gr w w') ∧ (∀ w, Calls Try.prog 20 #[cur r c p, .int .i64 n, .int .i64 m, bnd W H T B o] w fun e w' => e = .returned (cur a4 b4 false) ∧ Gr w w') ∧ (∀ w, Calls Try.prog 15 #[cur r c p, bnd W H T B o] w fun e w' => e = .returned (.tuple #[cur a5 b5 false, .int .i64 i]) ∧ Gr w w') ∧ (∀ w, Calls Try.prog 17 #[cur r c p, bnd W H T B o] w fun e w' => e = .returned (.tuple #[cur a6 b6 false, .int .i64 k]) ∧ Gr w w') := by
  have u : ∀ n, 0 ≤ upRow (lim r 0 (H - 1)) n H T B ∧ upRow (lim r 0 (H - 1)) n H T B < H := by
    intro n
    unfold upRow
    split
    · have b1 := lim_ge (lim r 0 (H - 1) - lim n (-1000) 1000) T (B - 1)
      have b2 := lim_le (lim r 0 (H - 1) - lim n (-1000) 1000) T (B - 1) (by omega)
      omega
    · have b1 := lim_ge (lim r 0 (H - 1) - lim n (-1000) 1000) 0 (H - 1)
      have b2 := lim_le (lim r 0 (H - 1) - lim n (-1000) 1000) 0 (H - 1) (by omega)
      omega
  have g : ∀ n M : Int, 1 ≤ M → 0 ≤ lim n 0 (M - 1) ∧ lim n 0 (M - 1) < M := by
    intro n M hM
    have b1 := lim_ge n 0 (M - 1)
    have b2 := lim_le n 0 (M - 1) (by omega)
    omega
  have t : 0 ≤ toRow o n H T B ∧ toRow o n H T B < H := by
    unfold toRow
    split
    · have b1 := lim_ge (T + (lim n 1 1000 - 1)) T (B - 1)
      have b2 := lim_le (T + (lim n 1 1000 - 1)) T (B - 1) (by omega)
      omega
    · exact g _ H h3
  refine ⟨_, _, _, _, _, _, _, _, _, _, _, _, ⟨⟨(u n).1, (u n).2, (g c W h1).1, (g c W h1).2⟩, ⟨(g r H h3).1, (g r H h3).2, (g _ W h1).1, (g _ W h1).2⟩, ⟨t.1, t.2, (g _ W h1).1, (g _ W h1).2⟩, ⟨(u (-1)).1, (u (-1)).2, (g c W h1).1, (g c W h1).2⟩, ⟨(u 1).1, (u 1).2, (g c W h1).1, (g c W h1).2⟩⟩, ?_,
    fun w => up_yes r c n p W H T B o w h1 h2 h3 h4 h5 h6 h7, fun w => right_yes r c n p W H T B o w h1 h2 h3 h4 h5 h6 h7, fun w => to_yes r c n m p W H T B o w h1 h2 h3 h4 h5 h6 h7, fun w => feed_yes r c p W H T B o w h1 h2 h3 h4 h5 h6 h7, fun w => reverse_yes r c p W H T B o w h1 h2 h3 h4 h5 h6 h7⟩
  refine ⟨?_, ?_, ?_, ?_⟩ <;> split <;> omega

set_option maxHeartbeats 6000000 in
theorem inside_law_yes (r c n m : Int) (p : Bool) (W H T B : Int) (o : Bool) (w : World) (h1 : 1 ≤ W) (h2 : W ≤ 132) (h3 : 1 ≤ H) (h4 : H ≤ 60) (h5 : 0 ≤ T) (h6 : T < B) (h7 : B ≤ H) :
    Calls Try.prog 10 #[cur r c p, bnd W H T B o, .int .i64 n, .int .i64 m] w fun e w' => e = .returned (.bool true) ∧ Gr w w' := by
  obtain ⟨a2, b2, a3, b3, a4, b4, a5, b5, a6, b6, i, k, ⟨⟨_, _, _, _⟩, ⟨_, _, _, _⟩, ⟨_, _, _, _⟩, ⟨_, _, _, _⟩, ⟨_, _, _, _⟩⟩, ⟨_, _, _, _⟩, A2, A3, A4, A5, A6⟩ := ins_five r c n m p W H T B o h1 h2 h3 h4 h5 h6 h7
  have A2 := Lib.hid A2; have A3 := Lib.hid A3; have A4 := Lib.hid A4; have A5 := Lib.hid A5; have A6 := Lib.hid A6
  go_enter Try.func10, Try.ntmps10
  go_wp2_with (first | (go_at_call 15; refine (A5.out _).mono ?_; rintro e w5 ⟨rfl, hg⟩; obtain ⟨cN, fN, hc, hf, hs⟩ := hg.facts; (try simp only [World.size_alloc, World.size_drew] at hc hf hs)) | (go_at_call 17; refine (A6.out _).mono ?_; rintro e w6 ⟨rfl, hg⟩; obtain ⟨cN, fN, hc, hf, hs⟩ := hg.facts; (try simp only [World.size_alloc, World.size_drew] at hc hf hs)))
  refine wp_region_mix [(true, 0), (true, 1), (true, 2), (true, 4), (true, 5), (true, 6), (true, 8), (true, 9), (true, 10), (true, 11), (true, 13), (true, 14), (false, 3), (false, 7), (false, 12), (false, 15), (true, 16)] (by kernel_rfl) (by kernel_rfl) ?_
  repeat (first
    | (refine mix_q rfl (by rfl) rfl (fun _ _ _ _ h => h) (fun K hK => ?_); go_big_quiet_op; refine hK _ ?_; clear hK K)
    | (refine mix_skip rfl (by rfl) (fun _ _ _ h => h) ?_; simp only [Act.put, List.setIfInBounds_toArray, List.set_cons_zero, List.set_cons_succ])
    | (refine mix_run rfl (by rfl) (fun K hK => ?_)
       go_wp2_with (first | (go_at_call 14; refine (A2.out _).mono ?_; rintro e w7 ⟨rfl, hg⟩; obtain ⟨cN, fN, hc, hf, hs⟩ := hg.facts; (try simp only [World.size_alloc, World.size_drew] at hc hf hs)) | (go_at_call 13; refine (A3.out _).mono ?_; rintro e w7 ⟨rfl, hg⟩; obtain ⟨cN, fN, hc, hf, hs⟩ := hg.facts; (try simp only [World.size_alloc, World.size_drew] at hc hf hs)) | (go_at_call 20; refine (A4.out _).mono ?_; rintro e w7 ⟨rfl, hg⟩; obtain ⟨cN, fN, hc, hf, hs⟩ := hg.facts; (try simp only [World.size_alloc, World.size_drew] at hc hf hs)))
       refine ⟨by (repeat (first | with_reducible exact Gr.refl _ | with_reducible apply Gr.undrew | with_reducible apply Gr.undrewN | with_reducible apply Gr.drew | with_reducible apply Gr.drewN | with_reducible apply Gr.grow | with_reducible apply Gr.alloc | (with_reducible refine Gr.setCell ?_ (by first | (simp; done) | (simp; omega)) _) | with_reducible assumption | (refine Gr.trans ?_ (by with_reducible assumption)))), ?_⟩)
    | (refine mix_skip_run rfl (by rfl) (by (repeat (first | with_reducible exact Gr.refl _ | with_reducible apply Gr.undrew | with_reducible apply Gr.undrewN | with_reducible apply Gr.drew | with_reducible apply Gr.drewN | with_reducible apply Gr.grow | with_reducible apply Gr.alloc | (with_reducible refine Gr.setCell ?_ (by first | (simp; done) | (simp; omega)) _) | with_reducible assumption | (refine Gr.trans ?_ (by with_reducible assumption))))) ?_; simp only [Act.put, List.setIfInBounds_toArray, List.set_cons_zero, List.set_cons_succ]))
  refine wpMix_nil ?_
  go_wp2_with fail
  refine wp_grown ?_
  intro W0 hg0
  have hg := hg0
  obtain ⟨cN, fN, hc, hf, hs⟩ := hg.facts; (try simp only [World.size_alloc, World.size_drew] at hc hf hs)
  go_loopw [46] (fun i wr => ∃ k : Int, 0 ≤ k ∧ k ≤ 5 ∧ i = .int .i64 k ∧ Gr W0 wr) (fun i _ => (5 - intOf i).toNat)
  case atStart => exact ⟨0, by omega, by omega, rfl, Gr.refl _⟩
  case round =>
    obtain ⟨k, k0, k5, rfl, hgr⟩ := hrel
    obtain ⟨cN, fN, hc, hf, hs⟩ := hgr.facts
    by_cases hk : k = 5
    · subst hk
      go_wp2_with (first | (go_at_call 11; refine (check_yes _ _ _ _ _ _ h1 h2 h3 h4 h5 h6 h7).mono ?_; rintro e w1 ⟨rfl, hg⟩; obtain ⟨cN, fN, hc, hf, hs⟩ := hg.facts; (try simp only [World.size_alloc, World.size_drew] at hc hf hs)) | (go_at_call 12; refine (awake_any _).mono ?_; rintro e w9 ⟨rfl, hg⟩; obtain ⟨cN, fN, hc, hf, hs⟩ := hg.facts; (try simp only [World.size_alloc, World.size_drew] at hc hf hs)))
      go_ret
      refine ⟨rfl, ?_⟩
      (repeat (first | with_reducible exact Gr.refl _ | with_reducible apply Gr.undrew | with_reducible apply Gr.undrewN | with_reducible apply Gr.drew | with_reducible apply Gr.drewN | with_reducible apply Gr.grow | with_reducible apply Gr.alloc | (with_reducible refine Gr.setCell ?_ (by first | (simp; done) | (simp; omega)) _) | with_reducible assumption | (refine Gr.trans ?_ (by with_reducible assumption))))
    · have hk' : k = 0 ∨ k = 1 ∨ k = 2 ∨ k = 3 ∨ k = 4 := by omega
      clear hk
      rcases hk' with rfl | rfl | rfl | rfl | rfl
      all_goals
        go_wp2_with (first | (go_at_call 11; refine (check_yes _ _ _ _ _ _ h1 h2 h3 h4 h5 h6 h7).mono ?_; rintro e w1 ⟨rfl, hg⟩; obtain ⟨cN, fN, hc, hf, hs⟩ := hg.facts; (try simp only [World.size_alloc, World.size_drew] at hc hf hs)) | (go_at_call 21; refine (linside_any _ _ _ _ _ _ _ _ (by omega) (by omega) (by omega) (by omega)).mono ?_; rintro e w8 ⟨rfl, hg⟩; obtain ⟨cN, fN, hc, hf, hs⟩ := hg.facts; (try simp only [World.size_alloc, World.size_drew] at hc hf hs)))
        go_roundw
        case rel => exact ⟨_, by decide, by decide, rfl, by (repeat (first | with_reducible exact Gr.refl _ | with_reducible apply Gr.undrew | with_reducible apply Gr.undrewN | with_reducible apply Gr.drew | with_reducible apply Gr.drewN | with_reducible apply Gr.grow | with_reducible apply Gr.alloc | (with_reducible refine Gr.setCell ?_ (by first | (simp; done) | (simp; omega)) _) | with_reducible assumption | (refine Gr.trans ?_ (by with_reducible assumption))))⟩
        case measure => simp [intOf]

set_option maxHeartbeats 6000000 in
theorem inside_law_no (r c n m : Int) (p : Bool) (W H T B : Int) (o : Bool) (w : World) (hok : ¬ okB W H T B) :
    Calls Try.prog 10 #[cur r c p, bnd W H T B o, .int .i64 n, .int .i64 m] w fun e w' => e = .returned (.bool true) ∧ Gr w w' := by
  have A2 := Lib.hid (fun w => up_no r c n p W H T B o w hok)
  have A3 := Lib.hid (fun w => right_no r c n p W H T B o w hok)
  have A4 := Lib.hid (fun w => to_no r c n m p W H T B o w hok)
  have A5 := Lib.hid (fun w => feed_no r c p W H T B o w hok)
  have A6 := Lib.hid (fun w => reverse_no r c p W H T B o w hok)
  go_enter Try.func10, Try.ntmps10
  go_wp2_with (first | (go_at_call 15; refine (A5.out _).mono ?_; rintro e w5 ⟨rfl, hg⟩; obtain ⟨cN, fN, hc, hf, hs⟩ := hg.facts; (try simp only [World.size_alloc, World.size_drew] at hc hf hs)) | (go_at_call 17; refine (A6.out _).mono ?_; rintro e w6 ⟨rfl, hg⟩; obtain ⟨cN, fN, hc, hf, hs⟩ := hg.facts; (try simp only [World.size_alloc, World.size_drew] at hc hf hs)))
  refine wp_region_mix [(true, 0), (true, 1), (true, 2), (true, 4), (true, 5), (true, 6), (true, 8), (true, 9), (true, 10), (true, 11), (true, 13), (true, 14), (false, 3), (false, 7), (false, 12), (false, 15), (true, 16)] (by kernel_rfl) (by kernel_rfl) ?_
  repeat (first
    | (refine mix_q rfl (by rfl) rfl (fun _ _ _ _ h => h) (fun K hK => ?_); go_big_quiet_op; refine hK _ ?_; clear hK K)
    | (refine mix_skip rfl (by rfl) (fun _ _ _ h => h) ?_; simp only [Act.put, List.setIfInBounds_toArray, List.set_cons_zero, List.set_cons_succ])
    | (refine mix_run rfl (by rfl) (fun K hK => ?_)
       go_wp2_with (first | (go_at_call 14; refine (A2.out _).mono ?_; rintro e w7 ⟨rfl, hg⟩; obtain ⟨cN, fN, hc, hf, hs⟩ := hg.facts; (try simp only [World.size_alloc, World.size_drew] at hc hf hs)) | (go_at_call 13; refine (A3.out _).mono ?_; rintro e w7 ⟨rfl, hg⟩; obtain ⟨cN, fN, hc, hf, hs⟩ := hg.facts; (try simp only [World.size_alloc, World.size_drew] at hc hf hs)) | (go_at_call 20; refine (A4.out _).mono ?_; rintro e w7 ⟨rfl, hg⟩; obtain ⟨cN, fN, hc, hf, hs⟩ := hg.facts; (try simp only [World.size_alloc, World.size_drew] at hc hf hs)))
       refine ⟨by (repeat (first | with_reducible exact Gr.refl _ | with_reducible apply Gr.undrew | with_reducible apply Gr.undrewN | with_reducible apply Gr.drew | with_reducible apply Gr.drewN | with_reducible apply Gr.grow | with_reducible apply Gr.alloc | (with_reducible refine Gr.setCell ?_ (by first | (simp; done) | (simp; omega)) _) | with_reducible assumption | (refine Gr.trans ?_ (by with_reducible assumption)))), ?_⟩)
    | (refine mix_skip_run rfl (by rfl) (by (repeat (first | with_reducible exact Gr.refl _ | with_reducible apply Gr.undrew | with_reducible apply Gr.undrewN | with_reducible apply Gr.drew | with_reducible apply Gr.drewN | with_reducible apply Gr.grow | with_reducible apply Gr.alloc | (with_reducible refine Gr.setCell ?_ (by first | (simp; done) | (simp; omega)) _) | with_reducible assumption | (refine Gr.trans ?_ (by with_reducible assumption))))) ?_; simp only [Act.put, List.setIfInBounds_toArray, List.set_cons_zero, List.set_cons_succ]))
  refine wpMix_nil ?_
  go_wp2_with fail
  refine wp_grown ?_
  intro W0 hg0
  have hg := hg0
  obtain ⟨cN, fN, hc, hf, hs⟩ := hg.facts; (try simp only [World.size_alloc, World.size_drew] at hc hf hs)
  go_loopw [46] (fun i wr => ∃ k : Int, 0 ≤ k ∧ k ≤ 5 ∧ i = .int .i64 k ∧ Gr W0 wr) (fun i _ => (5 - intOf i).toNat)
  case atStart => exact ⟨0, by omega, by omega, rfl, Gr.refl _⟩
  case round =>
    obtain ⟨k, k0, k5, rfl, hgr⟩ := hrel
    obtain ⟨cN, fN, hc, hf, hs⟩ := hgr.facts
    by_cases hk : k = 5
    · subst hk
      go_wp2_with (first | (go_at_call 11; refine (check_no _ _ _ _ _ _ hok).mono ?_; rintro e w1 ⟨rfl, hg⟩; obtain ⟨cN, fN, hc, hf, hs⟩ := hg.facts; (try simp only [World.size_alloc, World.size_drew] at hc hf hs)) | (go_at_call 12; refine (awake_any _).mono ?_; rintro e w9 ⟨rfl, hg⟩; obtain ⟨cN, fN, hc, hf, hs⟩ := hg.facts; (try simp only [World.size_alloc, World.size_drew] at hc hf hs)))
      go_ret
      refine ⟨rfl, ?_⟩
      (repeat (first | with_reducible exact Gr.refl _ | with_reducible apply Gr.undrew | with_reducible apply Gr.undrewN | with_reducible apply Gr.drew | with_reducible apply Gr.drewN | with_reducible apply Gr.grow | with_reducible apply Gr.alloc | (with_reducible refine Gr.setCell ?_ (by first | (simp; done) | (simp; omega)) _) | with_reducible assumption | (refine Gr.trans ?_ (by with_reducible assumption))))
    · have hk' : k = 0 ∨ k = 1 ∨ k = 2 ∨ k = 3 ∨ k = 4 := by omega
      clear hk
      rcases hk' with rfl | rfl | rfl | rfl | rfl
      all_goals
        go_wp2_with (first | (go_at_call 11; refine (check_no _ _ _ _ _ _ hok).mono ?_; rintro e w1 ⟨rfl, hg⟩; obtain ⟨cN, fN, hc, hf, hs⟩ := hg.facts; (try simp only [World.size_alloc, World.size_drew] at hc hf hs)))
        go_roundw
        case rel => exact ⟨_, by decide, by decide, rfl, by (repeat (first | with_reducible exact Gr.refl _ | with_reducible apply Gr.undrew | with_reducible apply Gr.undrewN | with_reducible apply Gr.drew | with_reducible apply Gr.drewN | with_reducible apply Gr.grow | with_reducible apply Gr.alloc | (with_reducible refine Gr.setCell ?_ (by first | (simp; done) | (simp; omega)) _) | with_reducible assumption | (refine Gr.trans ?_ (by with_reducible assumption))))⟩
        case measure => simp [intOf]

theorem walk_CursorInside (r c : Int) (p : Bool) (W H T B : Int) (o : Bool) (n : Int) (wn : (Lit.int .i64 n).wf = true) (m : Int) (wm : (Lit.int .i64 m).wf = true) (w : World) :
    Calls Try.prog 10 #[cur r c p, bnd W H T B o, .int .i64 n, .int .i64 m] w fun e w' => e = .returned (.bool true) ∧ Gr w w' := by
  by_cases hok : okB W H T B
  · obtain ⟨h1, h2, h3, h4, h5, h6, h7⟩ := hok
    exact inside_law_yes r c n m p W H T B o w h1 h2 h3 h4 h5 h6 h7
  · exact inside_law_no r c n m p W H T B o w hok

end Go.Proofs.Ytghhanophenhbaa
