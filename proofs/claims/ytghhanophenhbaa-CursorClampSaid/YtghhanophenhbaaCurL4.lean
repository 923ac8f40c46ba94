/- The walk of the law CursorClamp. -/
import Derived.Test.YtghhanophenhbaaCurF
import Derived.Test.YtghhanophenhbaaCurAw
namespace Go.Proofs.Ytghhanophenhbaa
set_option linter.unusedSimpArgs false
set_option linter.unusedVariables false
set_option linter.unusedSectionVars false
open Go.RowKit
set_option linter.unusedVariables false

/-- Clamp, and Clamp again. -/
theorem clamp_two (r c : Int) (p : Bool) (W H T B : Int) (o : Bool) (h1 : 1 ≤ W) (h2 : W ≤ 132) (h3 : 1 ≤ H) (h4 : H ≤ 60) (h5 : 0 ≤ T) (h6 : T < B) (h7 : B ≤ H) : ∃ (a b : Int) (q : Bool), (∀ w, Calls Try.prog 19 #[cur r c p, bnd W H T B o] w fun e w' => e = .returned (cur a b q) ∧ Gr w w') ∧ (∀ w, Calls Try.prog 19 #[cur a b q, bnd W H T B o] w fun e w' => e = .returned (cur a b q) ∧ Gr w w') ∧ 0 ≤ a ∧ a < H ∧ 0 ≤ b ∧ b < W ∧ (q = false ∨ (p = true ∧ b = W - 1)) ∧
    ((0 ≤ r ∧ r < H ∧ 0 ≤ c ∧ c < W) → a = r ∧ b = c ∧ q = (p && c == W - 1)) := by
  have b1 := lim_ge r 0 (H - 1)
  have b2 := lim_le r 0 (H - 1) (by omega)
  have b3 := lim_ge c 0 (W - 1)
  have b4 := lim_le c 0 (W - 1) (by omega)
  have e1 : lim (lim r 0 (H - 1)) 0 (H - 1) = lim r 0 (H - 1) := lim_idem _ _ _ (by omega)
  have e2 : lim (lim c 0 (W - 1)) 0 (W - 1) = lim c 0 (W - 1) := lim_idem _ _ _ (by omega)
  have e3 : (0 ≤ r ∧ r < H ∧ 0 ≤ c ∧ c < W) → lim r 0 (H - 1) = r ∧ lim c 0 (W - 1) = c := by
    intro h; unfold lim; omega
  cases p
  · refine ⟨_, _, _, fun w => clamp_yes0 r c W H T B o w h1 h2 h3 h4 h5 h6 h7, fun w => (clamp_yes0 (lim r 0 (H - 1)) (lim c 0 (W - 1)) W H T B o w h1 h2 h3 h4 h5 h6 h7).mono fun e w' h => ⟨h.1.trans (by rw [e1, e2]), h.2⟩, b1, by omega, b3, by omega, .inl rfl, fun h => ⟨(e3 h).1, (e3 h).2, by simp⟩⟩
  · by_cases hq : lim c 0 (W - 1) = W - 1
    · refine ⟨_, _, _, fun w => clamp_yes1 r c W H T B o w h1 h2 h3 h4 h5 h6 h7 hq, fun w => (clamp_yes1 (lim r 0 (H - 1)) (lim c 0 (W - 1)) W H T B o w h1 h2 h3 h4 h5 h6 h7 (e2.trans hq)).mono fun e w' h => ⟨h.1.trans (by rw [e1, e2]), h.2⟩, b1, by omega, b3, by omega, .inr ⟨rfl, hq⟩, fun h => ⟨(e3 h).1, (e3 h).2, ?_⟩⟩
      have := (e3 h).2
      simp; omega
    · refine ⟨_, _, _, fun w => clamp_yes2 r c W H T B o w h1 h2 h3 h4 h5 h6 h7 hq, fun w => (clamp_yes0 (lim r 0 (H - 1)) (lim c 0 (W - 1)) W H T B o w h1 h2 h3 h4 h5 h6 h7).mono fun e w' h => ⟨h.1.trans (by rw [e1, e2]), h.2⟩, b1, by omega, b3, by omega, .inl rfl, fun h => ⟨(e3 h).1, (e3 h).2, ?_⟩⟩
      have := (e3 h).2
      simp; omega

set_option maxHeartbeats 4000000 in
theorem clamp_out_ff (r c a b : Int) (W H T B : Int) (o : Bool) (w : World) (h1 : 1 ≤ W) (h2 : W ≤ 132) (h3 : 1 ≤ H) (h4 : H ≤ 60) (h5 : 0 ≤ T) (h6 : T < B) (h7 : B ≤ H) (a0 : 0 ≤ a) (a1 : a < H) (b0 : 0 ≤ b) (b1 : b < W) (hout : ¬ (0 ≤ r ∧ r < H ∧ 0 ≤ c ∧ c < W)) (A : (∀ w, Calls Try.prog 19 #[cur r c false, bnd W H T B o] w fun e w' => e = .returned (cur a b false) ∧ Gr w w')) (A' : (∀ w, Calls Try.prog 19 #[cur a b false, bnd W H T B o] w fun e w' => e = .returned (cur a b false) ∧ Gr w w')) :
    Calls Try.prog 6 #[cur r c false, bnd W H T B o] w fun e w' => e = .returned (.bool true) ∧ Gr w w' := by
  have t1 : decide (a < 0) = false := by simp; omega
  have t2 : decide (H ≤ a) = false := by simp; omega
  have t3 : decide (b < 0) = false := by simp; omega
  have t4 : decide (W ≤ b) = false := by simp; omega
  have A := Lib.hid A; have A' := Lib.hid A'
  go_enter Try.func6, Try.ntmps6
  go_wp2_with (first | (go_at_call 11; refine (check_yes _ _ _ _ _ _ h1 h2 h3 h4 h5 h6 h7).mono ?_; rintro e w1 ⟨rfl, hg⟩; obtain ⟨cN, fN, hc, hf, hs⟩ := hg.facts; (try simp only [World.size_alloc, World.size_drew] at hc hf hs)) | (go_at_call 19; refine (A.out _).mono ?_; rintro e w2 ⟨rfl, hg⟩; obtain ⟨cN, fN, hc, hf, hs⟩ := hg.facts; (try simp only [World.size_alloc, World.size_drew] at hc hf hs)))
  refine wp_region_grows (by kernel_rfl) (by kernel_rfl) ?_
  repeat (first
    | go_big_quiet_skip
    | (go_big_quiet_want; go_big_quiet_op; first | go_big_quiet_on | (apply Exists.intro; refine ⟨fun _ => ?_, ?_⟩; (· (first | (with_reducible exact Calls.gr_of (A'.out _)) | (with_reducible exact Calls.gr_of (awake_any _)))); go_big_quiet_on)))
  refine wpQuiet_nil ?_
  intro w5 hg
  change Gr _ _ at hg
  obtain ⟨cN, fN, hc, hf, hs⟩ := hg.facts; (try simp only [World.size_alloc, World.size_drew] at hc hf hs)
  go_wp2_with (first | (go_at_call 12; refine (awake_any _).mono ?_; rintro e w9 ⟨rfl, hg⟩; obtain ⟨cN, fN, hc, hf, hs⟩ := hg.facts; (try simp only [World.size_alloc, World.size_drew] at hc hf hs)))
  all_goals
    go_ret
    refine ⟨rfl, ?_⟩
    (repeat (first | with_reducible exact Gr.refl _ | with_reducible apply Gr.undrew | with_reducible apply Gr.undrewN | with_reducible apply Gr.drew | with_reducible apply Gr.drewN | with_reducible apply Gr.grow | with_reducible apply Gr.alloc | (with_reducible refine Gr.setCell ?_ (by first | (simp; done) | (simp; omega)) _) | with_reducible assumption | (refine Gr.trans ?_ (by with_reducible assumption))))

set_option maxHeartbeats 4000000 in
theorem clamp_out_tf (r c a b : Int) (W H T B : Int) (o : Bool) (w : World) (h1 : 1 ≤ W) (h2 : W ≤ 132) (h3 : 1 ≤ H) (h4 : H ≤ 60) (h5 : 0 ≤ T) (h6 : T < B) (h7 : B ≤ H) (a0 : 0 ≤ a) (a1 : a < H) (b0 : 0 ≤ b) (b1 : b < W) (hout : ¬ (0 ≤ r ∧ r < H ∧ 0 ≤ c ∧ c < W)) (A : (∀ w, Calls Try.prog 19 #[cur r c true, bnd W H T B o] w fun e w' => e = .returned (cur a b false) ∧ Gr w w')) (A' : (∀ w, Calls Try.prog 19 #[cur a b false, bnd W H T B o] w fun e w' => e = .returned (cur a b false) ∧ Gr w w')) :
    Calls Try.prog 6 #[cur r c true, bnd W H T B o] w fun e w' => e = .returned (.bool true) ∧ Gr w w' := by
  have t1 : decide (a < 0) = false := by simp; omega
  have t2 : decide (H ≤ a) = false := by simp; omega
  have t3 : decide (b < 0) = false := by simp; omega
  have t4 : decide (W ≤ b) = false := by simp; omega
  have A := Lib.hid A; have A' := Lib.hid A'
  go_enter Try.func6, Try.ntmps6
  go_wp2_with (first | (go_at_call 11; refine (check_yes _ _ _ _ _ _ h1 h2 h3 h4 h5 h6 h7).mono ?_; rintro e w1 ⟨rfl, hg⟩; obtain ⟨cN, fN, hc, hf, hs⟩ := hg.facts; (try simp only [World.size_alloc, World.size_drew] at hc hf hs)) | (go_at_call 19; refine (A.out _).mono ?_; rintro e w2 ⟨rfl, hg⟩; obtain ⟨cN, fN, hc, hf, hs⟩ := hg.facts; (try simp only [World.size_alloc, World.size_drew] at hc hf hs)))
  refine wp_region_grows (by kernel_rfl) (by kernel_rfl) ?_
  repeat (first
    | go_big_quiet_skip
    | (go_big_quiet_want; go_big_quiet_op; first | go_big_quiet_on | (apply Exists.intro; refine ⟨fun _ => ?_, ?_⟩; (· (first | (with_reducible exact Calls.gr_of (A'.out _)) | (with_reducible exact Calls.gr_of (awake_any _)))); go_big_quiet_on)))
  refine wpQuiet_nil ?_
  intro w5 hg
  change Gr _ _ at hg
  obtain ⟨cN, fN, hc, hf, hs⟩ := hg.facts; (try simp only [World.size_alloc, World.size_drew] at hc hf hs)
  go_wp2_with (first | (go_at_call 12; refine (awake_any _).mono ?_; rintro e w9 ⟨rfl, hg⟩; obtain ⟨cN, fN, hc, hf, hs⟩ := hg.facts; (try simp only [World.size_alloc, World.size_drew] at hc hf hs)))
  all_goals
    go_ret
    refine ⟨rfl, ?_⟩
    (repeat (first | with_reducible exact Gr.refl _ | with_reducible apply Gr.undrew | with_reducible apply Gr.undrewN | with_reducible apply Gr.drew | with_reducible apply Gr.drewN | with_reducible apply Gr.grow | with_reducible apply Gr.alloc | (with_reducible refine Gr.setCell ?_ (by first | (simp; done) | (simp; omega)) _) | with_reducible assumption | (refine Gr.trans ?_ (by with_reducible assumption))))

set_option maxHeartbeats 4000000 in
theorem clamp_out_tt (r c a b : Int) (W H T B : Int) (o : Bool) (w : World) (h1 : 1 ≤ W) (h2 : W ≤ 132) (h3 : 1 ≤ H) (h4 : H ≤ 60) (h5 : 0 ≤ T) (h6 : T < B) (h7 : B ≤ H) (a0 : 0 ≤ a) (a1 : a < H) (b0 : 0 ≤ b) (b1 : b < W) (hout : ¬ (0 ≤ r ∧ r < H ∧ 0 ≤ c ∧ c < W)) (hq : b = W - 1) (A : (∀ w, Calls Try.prog 19 #[cur r c true, bnd W H T B o] w fun e w' => e = .returned (cur a b true) ∧ Gr w w')) (A' : (∀ w, Calls Try.prog 19 #[cur a b true, bnd W H T B o] w fun e w' => e = .returned (cur a b true) ∧ Gr w w')) :
    Calls Try.prog 6 #[cur r c true, bnd W H T B o] w fun e w' => e = .returned (.bool true) ∧ Gr w w' := by
  have t1 : decide (a < 0) = false := by simp; omega
  have t2 : decide (H ≤ a) = false := by simp; omega
  have t3 : decide (b < 0) = false := by simp; omega
  have t4 : decide (W ≤ b) = false := by simp; omega
  have t5 : (b == W - 1) = true := by simpa using hq
  have t6 : (b != W - 1) = false := by simpa using hq
  clear hq
  have A := Lib.hid A; have A' := Lib.hid A'
  go_enter Try.func6, Try.ntmps6
  go_wp2_with (first | (go_at_call 11; refine (check_yes _ _ _ _ _ _ h1 h2 h3 h4 h5 h6 h7).mono ?_; rintro e w1 ⟨rfl, hg⟩; obtain ⟨cN, fN, hc, hf, hs⟩ := hg.facts; (try simp only [World.size_alloc, World.size_drew] at hc hf hs)) | (go_at_call 19; refine (A.out _).mono ?_; rintro e w2 ⟨rfl, hg⟩; obtain ⟨cN, fN, hc, hf, hs⟩ := hg.facts; (try simp only [World.size_alloc, World.size_drew] at hc hf hs)))
  refine wp_region_grows (by kernel_rfl) (by kernel_rfl) ?_
  repeat (first
    | go_big_quiet_skip
    | (go_big_quiet_want; go_big_quiet_op; first | go_big_quiet_on | (apply Exists.intro; refine ⟨fun _ => ?_, ?_⟩; (· (first | (with_reducible exact Calls.gr_of (A'.out _)) | (with_reducible exact Calls.gr_of (awake_any _)))); go_big_quiet_on)))
  refine wpQuiet_nil ?_
  intro w5 hg
  change Gr _ _ at hg
  obtain ⟨cN, fN, hc, hf, hs⟩ := hg.facts; (try simp only [World.size_alloc, World.size_drew] at hc hf hs)
  go_wp2_with (first | (go_at_call 12; refine (awake_any _).mono ?_; rintro e w9 ⟨rfl, hg⟩; obtain ⟨cN, fN, hc, hf, hs⟩ := hg.facts; (try simp only [World.size_alloc, World.size_drew] at hc hf hs)))
  all_goals
    go_ret
    refine ⟨rfl, ?_⟩
    (repeat (first | with_reducible exact Gr.refl _ | with_reducible apply Gr.undrew | with_reducible apply Gr.undrewN | with_reducible apply Gr.drew | with_reducible apply Gr.drewN | with_reducible apply Gr.grow | with_reducible apply Gr.alloc | (with_reducible refine Gr.setCell ?_ (by first | (simp; done) | (simp; omega)) _) | with_reducible assumption | (refine Gr.trans ?_ (by with_reducible assumption))))

set_option maxHeartbeats 4000000 in
theorem clamp_in_ff (r c : Int) (W H T B : Int) (o : Bool) (w : World) (h1 : 1 ≤ W) (h2 : W ≤ 132) (h3 : 1 ≤ H) (h4 : H ≤ 60) (h5 : 0 ≤ T) (h6 : T < B) (h7 : B ≤ H) (a0 : 0 ≤ r) (a1 : r < H) (b0 : 0 ≤ c) (b1 : c < W) (A : (∀ w, Calls Try.prog 19 #[cur r c false, bnd W H T B o] w fun e w' => e = .returned (cur r c false) ∧ Gr w w')) (A' : (∀ w, Calls Try.prog 19 #[cur r c false, bnd W H T B o] w fun e w' => e = .returned (cur r c false) ∧ Gr w w')) :
    Calls Try.prog 6 #[cur r c false, bnd W H T B o] w fun e w' => e = .returned (.bool true) ∧ Gr w w' := by
  have t1 : decide (r < 0) = false := by simp; omega
  have t2 : decide (H ≤ r) = false := by simp; omega
  have t3 : decide (c < 0) = false := by simp; omega
  have t4 : decide (W ≤ c) = false := by simp; omega
  have A := Lib.hid A; have A' := Lib.hid A'
  go_enter Try.func6, Try.ntmps6
  go_wp2_with (first | (go_at_call 11; refine (check_yes _ _ _ _ _ _ h1 h2 h3 h4 h5 h6 h7).mono ?_; rintro e w1 ⟨rfl, hg⟩; obtain ⟨cN, fN, hc, hf, hs⟩ := hg.facts; (try simp only [World.size_alloc, World.size_drew] at hc hf hs)) | (go_at_call 19; refine (A.out _).mono ?_; rintro e w2 ⟨rfl, hg⟩; obtain ⟨cN, fN, hc, hf, hs⟩ := hg.facts; (try simp only [World.size_alloc, World.size_drew] at hc hf hs)))
  refine wp_region_grows (by kernel_rfl) (by kernel_rfl) ?_
  repeat (first
    | go_big_quiet_skip
    | (go_big_quiet_want; go_big_quiet_op; first | go_big_quiet_on | (apply Exists.intro; refine ⟨fun _ => ?_, ?_⟩; (· (first | (with_reducible exact Calls.gr_of (A'.out _)) | (with_reducible exact Calls.gr_of (awake_any _)))); go_big_quiet_on)))
  refine wpQuiet_nil ?_
  intro w5 hg
  change Gr _ _ at hg
  obtain ⟨cN, fN, hc, hf, hs⟩ := hg.facts; (try simp only [World.size_alloc, World.size_drew] at hc hf hs)
  go_wp2_with (first | (go_at_call 12; refine (awake_any _).mono ?_; rintro e w9 ⟨rfl, hg⟩; obtain ⟨cN, fN, hc, hf, hs⟩ := hg.facts; (try simp only [World.size_alloc, World.size_drew] at hc hf hs)))
  all_goals
    go_ret
    refine ⟨rfl, ?_⟩
    (repeat (first | with_reducible exact Gr.refl _ | with_reducible apply Gr.undrew | with_reducible apply Gr.undrewN | with_reducible apply Gr.drew | with_reducible apply Gr.drewN | with_reducible apply Gr.grow | with_reducible apply Gr.alloc | (with_reducible refine Gr.setCell ?_ (by first | (simp; done) | (simp; omega)) _) | with_reducible assumption | (refine Gr.trans ?_ (by with_reducible assumption))))

set_option maxHeartbeats 4000000 in
theorem clamp_in_tt (r c : Int) (W H T B : Int) (o : Bool) (w : World) (h1 : 1 ≤ W) (h2 : W ≤ 132) (h3 : 1 ≤ H) (h4 : H ≤ 60) (h5 : 0 ≤ T) (h6 : T < B) (h7 : B ≤ H) (a0 : 0 ≤ r) (a1 : r < H) (b0 : 0 ≤ c) (b1 : c < W) (hq : c = W - 1) (A : (∀ w, Calls Try.prog 19 #[cur r c true, bnd W H T B o] w fun e w' => e = .returned (cur r c true) ∧ Gr w w')) (A' : (∀ w, Calls Try.prog 19 #[cur r c true, bnd W H T B o] w fun e w' => e = .returned (cur r c true) ∧ Gr w w')) :
    Calls Try.prog 6 #[cur r c true, bnd W H T B o] w fun e w' => e = .returned (.bool true) ∧ Gr w w' := by
  have t1 : decide (r < 0) = false := by simp; omega
  have t2 : decide (H ≤ r) = false := by simp; omega
  have t3 : decide (c < 0) = false := by simp; omega
  have t4 : decide (W ≤ c) = false := by simp; omega
  have t5 : (c == W - 1) = true := by simpa using hq
  have t6 : (c != W - 1) = false := by simpa using hq
  clear hq
  have A := Lib.hid A; have A' := Lib.hid A'
  go_enter Try.func6, Try.ntmps6
  go_wp2_with (first | (go_at_call 11; refine (check_yes _ _ _ _ _ _ h1 h2 h3 h4 h5 h6 h7).mono ?_; rintro e w1 ⟨rfl, hg⟩; obtain ⟨cN, fN, hc, hf, hs⟩ := hg.facts; (try simp only [World.size_alloc, World.size_drew] at hc hf hs)) | (go_at_call 19; refine (A.out _).mono ?_; rintro e w2 ⟨rfl, hg⟩; obtain ⟨cN, fN, hc, hf, hs⟩ := hg.facts; (try simp only [World.size_alloc, World.size_drew] at hc hf hs)))
  refine wp_region_grows (by kernel_rfl) (by kernel_rfl) ?_
  repeat (first
    | go_big_quiet_skip
    | (go_big_quiet_want; go_big_quiet_op; first | go_big_quiet_on | (apply Exists.intro; refine ⟨fun _ => ?_, ?_⟩; (· (first | (with_reducible exact Calls.gr_of (A'.out _)) | (with_reducible exact Calls.gr_of (awake_any _)))); go_big_quiet_on)))
  refine wpQuiet_nil ?_
  intro w5 hg
  change Gr _ _ at hg
  obtain ⟨cN, fN, hc, hf, hs⟩ := hg.facts; (try simp only [World.size_alloc, World.size_drew] at hc hf hs)
  go_wp2_with (first | (go_at_call 12; refine (awake_any _).mono ?_; rintro e w9 ⟨rfl, hg⟩; obtain ⟨cN, fN, hc, hf, hs⟩ := hg.facts; (try simp only [World.size_alloc, World.size_drew] at hc hf hs)))
  all_goals
    go_ret
    refine ⟨rfl, ?_⟩
    (repeat (first | with_reducible exact Gr.refl _ | with_reducible apply Gr.undrew | with_reducible apply Gr.undrewN | with_reducible apply Gr.drew | with_reducible apply Gr.drewN | with_reducible apply Gr.grow | with_reducible apply Gr.alloc | (with_reducible refine Gr.setCell ?_ (by first | (simp; done) | (simp; omega)) _) | with_reducible assumption | (refine Gr.trans ?_ (by with_reducible assumption))))

set_option maxHeartbeats 4000000 in
theorem clamp_in_tf (r c : Int) (W H T B : Int) (o : Bool) (w : World) (h1 : 1 ≤ W) (h2 : W ≤ 132) (h3 : 1 ≤ H) (h4 : H ≤ 60) (h5 : 0 ≤ T) (h6 : T < B) (h7 : B ≤ H) (a0 : 0 ≤ r) (a1 : r < H) (b0 : 0 ≤ c) (b1 : c < W) (hq : ¬ c = W - 1) (A : (∀ w, Calls Try.prog 19 #[cur r c true, bnd W H T B o] w fun e w' => e = .returned (cur r c false) ∧ Gr w w')) (A' : (∀ w, Calls Try.prog 19 #[cur r c false, bnd W H T B o] w fun e w' => e = .returned (cur r c false) ∧ Gr w w')) :
    Calls Try.prog 6 #[cur r c true, bnd W H T B o] w fun e w' => e = .returned (.bool true) ∧ Gr w w' := by
  have t1 : decide (r < 0) = false := by simp; omega
  have t2 : decide (H ≤ r) = false := by simp; omega
  have t3 : decide (c < 0) = false := by simp; omega
  have t4 : decide (W ≤ c) = false := by simp; omega
  have t5 : (c == W - 1) = false := by simpa using hq
  have t6 : (c != W - 1) = true := by simpa using hq
  clear hq
  have A := Lib.hid A; have A' := Lib.hid A'
  go_enter Try.func6, Try.ntmps6
  go_wp2_with (first | (go_at_call 11; refine (check_yes _ _ _ _ _ _ h1 h2 h3 h4 h5 h6 h7).mono ?_; rintro e w1 ⟨rfl, hg⟩; obtain ⟨cN, fN, hc, hf, hs⟩ := hg.facts; (try simp only [World.size_alloc, World.size_drew] at hc hf hs)) | (go_at_call 19; refine (A.out _).mono ?_; rintro e w2 ⟨rfl, hg⟩; obtain ⟨cN, fN, hc, hf, hs⟩ := hg.facts; (try simp only [World.size_alloc, World.size_drew] at hc hf hs)))
  refine wp_region_grows (by kernel_rfl) (by kernel_rfl) ?_
  repeat (first
    | go_big_quiet_skip
    | (go_big_quiet_want; go_big_quiet_op; first | go_big_quiet_on | (apply Exists.intro; refine ⟨fun _ => ?_, ?_⟩; (· (first | (with_reducible exact Calls.gr_of (A'.out _)) | (with_reducible exact Calls.gr_of (awake_any _)))); go_big_quiet_on)))
  refine wpQuiet_nil ?_
  intro w5 hg
  change Gr _ _ at hg
  obtain ⟨cN, fN, hc, hf, hs⟩ := hg.facts; (try simp only [World.size_alloc, World.size_drew] at hc hf hs)
  go_wp2_with (first | (go_at_call 12; refine (awake_any _).mono ?_; rintro e w9 ⟨rfl, hg⟩; obtain ⟨cN, fN, hc, hf, hs⟩ := hg.facts; (try simp only [World.size_alloc, World.size_drew] at hc hf hs)))
  all_goals
    go_ret
    refine ⟨rfl, ?_⟩
    (repeat (first | with_reducible exact Gr.refl _ | with_reducible apply Gr.undrew | with_reducible apply Gr.undrewN | with_reducible apply Gr.drew | with_reducible apply Gr.drewN | with_reducible apply Gr.grow | with_reducible apply Gr.alloc | (with_reducible refine Gr.setCell ?_ (by first | (simp; done) | (simp; omega)) _) | with_reducible assumption | (refine Gr.trans ?_ (by with_reducible assumption))))

theorem walk_CursorClamp (r c : Int) (p : Bool) (W H T B : Int) (o : Bool) (w : World) :
    Calls Try.prog 6 #[cur r c p, bnd W H T B o] w fun e w' => e = .returned (.bool true) ∧ Gr w w' := by
  by_cases hok : okB W H T B
  · obtain ⟨h1, h2, h3, h4, h5, h6, h7⟩ := hok
    obtain ⟨a, b, q, A, A', a0, a1, b0, b1, hq, hin⟩ := clamp_two r c p W H T B o h1 h2 h3 h4 h5 h6 h7
    by_cases hi : 0 ≤ r ∧ r < H ∧ 0 ≤ c ∧ c < W
    · obtain ⟨rfl, rfl, rfl⟩ := hin hi
      cases p
      · exact clamp_in_ff a b W H T B o w h1 h2 h3 h4 h5 h6 h7 a0 a1 b0 b1 (by simpa using A) (by simpa using A')
      · by_cases he : b = W - 1
        · have e : (true && b == W - 1) = true := by simpa using he
          rw [e] at A A'
          exact clamp_in_tt a b W H T B o w h1 h2 h3 h4 h5 h6 h7 a0 a1 b0 b1 he A A'
        · have e : (true && b == W - 1) = false := by simpa using he
          rw [e] at A A'
          exact clamp_in_tf a b W H T B o w h1 h2 h3 h4 h5 h6 h7 a0 a1 b0 b1 he A A'
    · cases q
      · cases p
        · exact clamp_out_ff r c a b W H T B o w h1 h2 h3 h4 h5 h6 h7 a0 a1 b0 b1 hi A A'
        · exact clamp_out_tf r c a b W H T B o w h1 h2 h3 h4 h5 h6 h7 a0 a1 b0 b1 hi A A'
      · rcases hq with hq | ⟨rfl, hq⟩
        · cases hq
        · exact clamp_out_tt r c a b W H T B o w h1 h2 h3 h4 h5 h6 h7 a0 a1 b0 b1 hi hq A A'
  · go_enter Try.func6, Try.ntmps6
    go_wp2_with (first | (go_at_call 11; refine (check_no _ _ _ _ _ _ hok).mono ?_; rintro e w1 ⟨rfl, hg⟩; obtain ⟨cN, fN, hc, hf, hs⟩ := hg.facts; (try simp only [World.size_alloc, World.size_drew] at hc hf hs)) | (go_at_call 12; refine (awake_any _).mono ?_; rintro e w9 ⟨rfl, hg⟩; obtain ⟨cN, fN, hc, hf, hs⟩ := hg.facts; (try simp only [World.size_alloc, World.size_drew] at hc hf hs)))
    go_ret
    refine ⟨rfl, ?_⟩
    (repeat (first | with_reducible exact Gr.refl _ | with_reducible apply Gr.undrew | with_reducible apply Gr.undrewN | with_reducible apply Gr.drew | with_reducible apply Gr.drewN | with_reducible apply Gr.grow | with_reducible apply Gr.alloc | (with_reducible refine Gr.setCell ?_ (by first | (simp; done) | (simp; omega)) _) | with_reducible assumption | (refine Gr.trans ?_ (by with_reducible assumption))))

end Go.Proofs.Ytghhanophenhbaa
