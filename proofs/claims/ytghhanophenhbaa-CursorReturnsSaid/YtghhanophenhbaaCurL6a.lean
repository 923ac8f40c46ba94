/- The walk of the law CursorReturns: a part. -/
import Derived.Test.YtghhanophenhbaaCurL6
namespace Go.Proofs.Ytghhanophenhbaa
set_option linter.unusedSimpArgs false
set_option linter.unusedVariables false
set_option linter.unusedSectionVars false
open Go.RowKit
set_option linter.unusedVariables false

set_option maxHeartbeats 4000000 in
theorem ret_a1x (r c m x n u1 v1 : Int) (W H T B : Int) (o : Bool) (w : World) (m0 : 0 ≤ m) (m1 : m ≤ 255) (h1 : 1 ≤ W) (h2 : W ≤ 132) (h3 : 1 ≤ H) (h4 : H ≤ 60) (h5 : 0 ≤ T) (h6 : T < B) (h7 : B ≤ H) (g1 : 0 ≤ r) (g2 : r < H) (g3 : 0 ≤ c) (g4 : c < W) (hn : n = 1) (hs1 : ¬ T ≤ r) (hr : c + m % 8 < W) (A1 : (∀ w, Calls Try.prog 15 #[cur r c false, bnd W H T B o] w fun e w' => e = .returned (.tuple #[cur x c false, .int .i64 n]) ∧ Gr w w')) (B1 : (∀ w, Calls Try.prog 14 #[cur r c false, .int .i64 (-(m % 8)), bnd W H T B o] w fun e w' => e = .returned (cur u1 c false) ∧ Gr w w')) (C1 : (∀ w, Calls Try.prog 13 #[cur r c false, .int .i64 (m % 8), bnd W H T B o] w fun e w' => e = .returned (cur r v1 false) ∧ Gr w w')) (C2 : (∀ w, Calls Try.prog 13 #[cur r v1 false, .int .i64 (-(m % 8)), bnd W H T B o] w fun e w' => e = .returned (cur r c false) ∧ Gr w w')) :
    Calls Try.prog 8 #[cur r c false, bnd W H T B o, .int .u8 m] w fun e w' => e = .returned (.bool true) ∧ Gr w w' := by
  have k0 : 0 ≤ m % 8 := by omega
  have k7 : m % 8 ≤ 7 := by omega
  have lin : decide (0 ≤ r ∧ r < H ∧ 0 ≤ c ∧ c < W ∧ false = false) = true := by simp [g1, g2, g3, g4]
  have z1 : decide (T ≤ r) = false := by simpa using hs1
  have z3 : decide (c + m % 8 < W) = true := by simpa using hr
  have A1 := Lib.hid A1
  clear B1
  have C1 := Lib.hid C1
  have C2 := Lib.hid C2
  subst hn
  have Z1 := Lib.hid z1; have Z3 := Lib.hid z3
  clear z1 z3
  go_enter Try.func8, Try.ntmps8
  go_wp2_with (first | (go_at_call 11; refine (check_yes _ _ _ _ _ _ h1 h2 h3 h4 h5 h6 h7).mono ?_; rintro e w1 ⟨rfl, hg⟩; obtain ⟨cN, fN, hc, hf, hs⟩ := hg.facts; (try simp only [World.size_alloc, World.size_drew] at hc hf hs)) | (go_at_call 21; refine (linside_b _ _ _ _ _ _ _ _ _).mono ?_; rintro e w8 ⟨rfl, hg⟩; obtain ⟨cN, fN, hc, hf, hs⟩ := hg.facts; (try simp only [World.size_alloc, World.size_drew] at hc hf hs)) | (go_at_call 15; refine (A1.out _).mono ?_; rintro e w5 ⟨rfl, hg⟩; obtain ⟨cN, fN, hc, hf, hs⟩ := hg.facts; (try simp only [World.size_alloc, World.size_drew] at hc hf hs)))
  have z1 := Z1.out
  refine wp_region_grows (by kernel_rfl) (by kernel_rfl) ?_
  repeat (first
    | go_big_quiet_skip
    | (go_big_quiet_want; go_big_quiet_op; first | go_big_quiet_on | (apply Exists.intro; refine ⟨fun _ => ?_, ?_⟩; (· (first | fail)); go_big_quiet_on)))
  refine wpQuiet_nil ?_
  intro w5 hg
  change Gr _ _ at hg
  obtain ⟨cN, fN, hc, hf, hs⟩ := hg.facts; (try simp only [World.size_alloc, World.size_drew] at hc hf hs)
  clear Z1 z1
  go_wp2_with fail
  have z3 := Z3.out
  refine wp_region_grows (by kernel_rfl) (by kernel_rfl) ?_
  repeat (first
    | go_big_quiet_skip
    | (go_big_quiet_want; go_big_quiet_op; first | go_big_quiet_on | (apply Exists.intro; refine ⟨fun _ => ?_, ?_⟩; (· (first | (with_reducible exact Calls.gr_of (C1.out _)) | (with_reducible exact Calls.gr_of (C2.out _)))); go_big_quiet_on)))
  refine wpQuiet_nil ?_
  intro w6 hg
  change Gr _ _ at hg
  obtain ⟨cN, fN, hc, hf, hs⟩ := hg.facts; (try simp only [World.size_alloc, World.size_drew] at hc hf hs)
  clear Z3 z3
  go_wp2_with (first | (go_at_call 12; refine (awake_any _).mono ?_; rintro e w9 ⟨rfl, hg⟩; obtain ⟨cN, fN, hc, hf, hs⟩ := hg.facts; (try simp only [World.size_alloc, World.size_drew] at hc hf hs)))
  go_ret
  refine ⟨rfl, ?_⟩
  (repeat (first | with_reducible exact Gr.refl _ | with_reducible apply Gr.undrew | with_reducible apply Gr.undrewN | with_reducible apply Gr.drew | with_reducible apply Gr.drewN | with_reducible apply Gr.grow | with_reducible apply Gr.alloc | (with_reducible refine Gr.setCell ?_ (by first | (simp; done) | (simp; omega)) _) | with_reducible assumption | (refine Gr.trans ?_ (by with_reducible assumption))))

set_option maxHeartbeats 4000000 in
theorem ret_a1y (r c m x n u1 v1 : Int) (W H T B : Int) (o : Bool) (w : World) (m0 : 0 ≤ m) (m1 : m ≤ 255) (h1 : 1 ≤ W) (h2 : W ≤ 132) (h3 : 1 ≤ H) (h4 : H ≤ 60) (h5 : 0 ≤ T) (h6 : T < B) (h7 : B ≤ H) (g1 : 0 ≤ r) (g2 : r < H) (g3 : 0 ≤ c) (g4 : c < W) (hn : n = 1) (hs1 : ¬ T ≤ r) (hr : ¬ c + m % 8 < W) (A1 : (∀ w, Calls Try.prog 15 #[cur r c false, bnd W H T B o] w fun e w' => e = .returned (.tuple #[cur x c false, .int .i64 n]) ∧ Gr w w')) (B1 : (∀ w, Calls Try.prog 14 #[cur r c false, .int .i64 (-(m % 8)), bnd W H T B o] w fun e w' => e = .returned (cur u1 c false) ∧ Gr w w')) (C1 : (∀ w, Calls Try.prog 13 #[cur r c false, .int .i64 (m % 8), bnd W H T B o] w fun e w' => e = .returned (cur r v1 false) ∧ Gr w w')) :
    Calls Try.prog 8 #[cur r c false, bnd W H T B o, .int .u8 m] w fun e w' => e = .returned (.bool true) ∧ Gr w w' := by
  have k0 : 0 ≤ m % 8 := by omega
  have k7 : m % 8 ≤ 7 := by omega
  have lin : decide (0 ≤ r ∧ r < H ∧ 0 ≤ c ∧ c < W ∧ false = false) = true := by simp [g1, g2, g3, g4]
  have z1 : decide (T ≤ r) = false := by simpa using hs1
  have z3 : decide (c + m % 8 < W) = false := by simpa using hr
  have A1 := Lib.hid A1
  clear B1
  clear C1
  subst hn
  have Z1 := Lib.hid z1; have Z3 := Lib.hid z3
  clear z1 z3
  go_enter Try.func8, Try.ntmps8
  go_wp2_with (first | (go_at_call 11; refine (check_yes _ _ _ _ _ _ h1 h2 h3 h4 h5 h6 h7).mono ?_; rintro e w1 ⟨rfl, hg⟩; obtain ⟨cN, fN, hc, hf, hs⟩ := hg.facts; (try simp only [World.size_alloc, World.size_drew] at hc hf hs)) | (go_at_call 21; refine (linside_b _ _ _ _ _ _ _ _ _).mono ?_; rintro e w8 ⟨rfl, hg⟩; obtain ⟨cN, fN, hc, hf, hs⟩ := hg.facts; (try simp only [World.size_alloc, World.size_drew] at hc hf hs)) | (go_at_call 15; refine (A1.out _).mono ?_; rintro e w5 ⟨rfl, hg⟩; obtain ⟨cN, fN, hc, hf, hs⟩ := hg.facts; (try simp only [World.size_alloc, World.size_drew] at hc hf hs)))
  have z1 := Z1.out
  refine wp_region_grows (by kernel_rfl) (by kernel_rfl) ?_
  repeat (first
    | go_big_quiet_skip
    | (go_big_quiet_want; go_big_quiet_op; first | go_big_quiet_on | (apply Exists.intro; refine ⟨fun _ => ?_, ?_⟩; (· (first | fail)); go_big_quiet_on)))
  refine wpQuiet_nil ?_
  intro w5 hg
  change Gr _ _ at hg
  obtain ⟨cN, fN, hc, hf, hs⟩ := hg.facts; (try simp only [World.size_alloc, World.size_drew] at hc hf hs)
  clear Z1 z1
  go_wp2_with fail
  have z3 := Z3.out
  refine wp_region_grows (by kernel_rfl) (by kernel_rfl) ?_
  repeat (first
    | go_big_quiet_skip
    | (go_big_quiet_want; go_big_quiet_op; first | go_big_quiet_on | (apply Exists.intro; refine ⟨fun _ => ?_, ?_⟩; (· (first | fail)); go_big_quiet_on)))
  refine wpQuiet_nil ?_
  intro w6 hg
  change Gr _ _ at hg
  obtain ⟨cN, fN, hc, hf, hs⟩ := hg.facts; (try simp only [World.size_alloc, World.size_drew] at hc hf hs)
  clear Z3 z3
  go_wp2_with (first | (go_at_call 12; refine (awake_any _).mono ?_; rintro e w9 ⟨rfl, hg⟩; obtain ⟨cN, fN, hc, hf, hs⟩ := hg.facts; (try simp only [World.size_alloc, World.size_drew] at hc hf hs)))
  go_ret
  refine ⟨rfl, ?_⟩
  (repeat (first | with_reducible exact Gr.refl _ | with_reducible apply Gr.undrew | with_reducible apply Gr.undrewN | with_reducible apply Gr.drew | with_reducible apply Gr.drewN | with_reducible apply Gr.grow | with_reducible apply Gr.alloc | (with_reducible refine Gr.setCell ?_ (by first | (simp; done) | (simp; omega)) _) | with_reducible assumption | (refine Gr.trans ?_ (by with_reducible assumption))))

set_option maxHeartbeats 4000000 in
theorem ret_a2x (r c m x n u1 v1 : Int) (W H T B : Int) (o : Bool) (w : World) (m0 : 0 ≤ m) (m1 : m ≤ 255) (h1 : 1 ≤ W) (h2 : W ≤ 132) (h3 : 1 ≤ H) (h4 : H ≤ 60) (h5 : 0 ≤ T) (h6 : T < B) (h7 : B ≤ H) (g1 : 0 ≤ r) (g2 : r < H) (g3 : 0 ≤ c) (g4 : c < W) (hn : n = 1) (hs1 : T ≤ r) (hs2 : ¬ r + m % 8 < B) (hr : c + m % 8 < W) (A1 : (∀ w, Calls Try.prog 15 #[cur r c false, bnd W H T B o] w fun e w' => e = .returned (.tuple #[cur x c false, .int .i64 n]) ∧ Gr w w')) (B1 : (∀ w, Calls Try.prog 14 #[cur r c false, .int .i64 (-(m % 8)), bnd W H T B o] w fun e w' => e = .returned (cur u1 c false) ∧ Gr w w')) (C1 : (∀ w, Calls Try.prog 13 #[cur r c false, .int .i64 (m % 8), bnd W H T B o] w fun e w' => e = .returned (cur r v1 false) ∧ Gr w w')) (C2 : (∀ w, Calls Try.prog 13 #[cur r v1 false, .int .i64 (-(m % 8)), bnd W H T B o] w fun e w' => e = .returned (cur r c false) ∧ Gr w w')) :
    Calls Try.prog 8 #[cur r c false, bnd W H T B o, .int .u8 m] w fun e w' => e = .returned (.bool true) ∧ Gr w w' := by
  have k0 : 0 ≤ m % 8 := by omega
  have k7 : m % 8 ≤ 7 := by omega
  have lin : decide (0 ≤ r ∧ r < H ∧ 0 ≤ c ∧ c < W ∧ false = false) = true := by simp [g1, g2, g3, g4]
  have z1 : decide (T ≤ r) = true := by simpa using hs1
  have z2 : decide (r + m % 8 < B) = false := by simpa using hs2
  have z3 : decide (c + m % 8 < W) = true := by simpa using hr
  have A1 := Lib.hid A1
  clear B1
  have C1 := Lib.hid C1
  have C2 := Lib.hid C2
  subst hn
  have Z1 := Lib.hid z1; have Z3 := Lib.hid z3
  clear z1 z3
  go_enter Try.func8, Try.ntmps8
  go_wp2_with (first | (go_at_call 11; refine (check_yes _ _ _ _ _ _ h1 h2 h3 h4 h5 h6 h7).mono ?_; rintro e w1 ⟨rfl, hg⟩; obtain ⟨cN, fN, hc, hf, hs⟩ := hg.facts; (try simp only [World.size_alloc, World.size_drew] at hc hf hs)) | (go_at_call 21; refine (linside_b _ _ _ _ _ _ _ _ _).mono ?_; rintro e w8 ⟨rfl, hg⟩; obtain ⟨cN, fN, hc, hf, hs⟩ := hg.facts; (try simp only [World.size_alloc, World.size_drew] at hc hf hs)) | (go_at_call 15; refine (A1.out _).mono ?_; rintro e w5 ⟨rfl, hg⟩; obtain ⟨cN, fN, hc, hf, hs⟩ := hg.facts; (try simp only [World.size_alloc, World.size_drew] at hc hf hs)))
  have z1 := Z1.out
  refine wp_region_grows (by kernel_rfl) (by kernel_rfl) ?_
  repeat (first
    | go_big_quiet_skip
    | (go_big_quiet_want; go_big_quiet_op; first | go_big_quiet_on | (apply Exists.intro; refine ⟨fun _ => ?_, ?_⟩; (· (first | fail)); go_big_quiet_on)))
  refine wpQuiet_nil ?_
  intro w5 hg
  change Gr _ _ at hg
  obtain ⟨cN, fN, hc, hf, hs⟩ := hg.facts; (try simp only [World.size_alloc, World.size_drew] at hc hf hs)
  clear Z1 z1
  go_wp2_with fail
  have z3 := Z3.out
  refine wp_region_grows (by kernel_rfl) (by kernel_rfl) ?_
  repeat (first
    | go_big_quiet_skip
    | (go_big_quiet_want; go_big_quiet_op; first | go_big_quiet_on | (apply Exists.intro; refine ⟨fun _ => ?_, ?_⟩; (· (first | (with_reducible exact Calls.gr_of (C1.out _)) | (with_reducible exact Calls.gr_of (C2.out _)))); go_big_quiet_on)))
  refine wpQuiet_nil ?_
  intro w6 hg
  change Gr _ _ at hg
  obtain ⟨cN, fN, hc, hf, hs⟩ := hg.facts; (try simp only [World.size_alloc, World.size_drew] at hc hf hs)
  clear Z3 z3
  go_wp2_with (first | (go_at_call 12; refine (awake_any _).mono ?_; rintro e w9 ⟨rfl, hg⟩; obtain ⟨cN, fN, hc, hf, hs⟩ := hg.facts; (try simp only [World.size_alloc, World.size_drew] at hc hf hs)))
  go_ret
  refine ⟨rfl, ?_⟩
  (repeat (first | with_reducible exact Gr.refl _ | with_reducible apply Gr.undrew | with_reducible apply Gr.undrewN | with_reducible apply Gr.drew | with_reducible apply Gr.drewN | with_reducible apply Gr.grow | with_reducible apply Gr.alloc | (with_reducible refine Gr.setCell ?_ (by first | (simp; done) | (simp; omega)) _) | with_reducible assumption | (refine Gr.trans ?_ (by with_reducible assumption))))

set_option maxHeartbeats 4000000 in
theorem ret_a2y (r c m x n u1 v1 : Int) (W H T B : Int) (o : Bool) (w : World) (m0 : 0 ≤ m) (m1 : m ≤ 255) (h1 : 1 ≤ W) (h2 : W ≤ 132) (h3 : 1 ≤ H) (h4 : H ≤ 60) (h5 : 0 ≤ T) (h6 : T < B) (h7 : B ≤ H) (g1 : 0 ≤ r) (g2 : r < H) (g3 : 0 ≤ c) (g4 : c < W) (hn : n = 1) (hs1 : T ≤ r) (hs2 : ¬ r + m % 8 < B) (hr : ¬ c + m % 8 < W) (A1 : (∀ w, Calls Try.prog 15 #[cur r c false, bnd W H T B o] w fun e w' => e = .returned (.tuple #[cur x c false, .int .i64 n]) ∧ Gr w w')) (B1 : (∀ w, Calls Try.prog 14 #[cur r c false, .int .i64 (-(m % 8)), bnd W H T B o] w fun e w' => e = .returned (cur u1 c false) ∧ Gr w w')) (C1 : (∀ w, Calls Try.prog 13 #[cur r c false, .int .i64 (m % 8), bnd W H T B o] w fun e w' => e = .returned (cur r v1 false) ∧ Gr w w')) :
    Calls Try.prog 8 #[cur r c false, bnd W H T B o, .int .u8 m] w fun e w' => e = .returned (.bool true) ∧ Gr w w' := by
  have k0 : 0 ≤ m % 8 := by omega
  have k7 : m % 8 ≤ 7 := by omega
  have lin : decide (0 ≤ r ∧ r < H ∧ 0 ≤ c ∧ c < W ∧ false = false) = true := by simp [g1, g2, g3, g4]
  have z1 : decide (T ≤ r) = true := by simpa using hs1
  have z2 : decide (r + m % 8 < B) = false := by simpa using hs2
  have z3 : decide (c + m % 8 < W) = false := by simpa using hr
  have A1 := Lib.hid A1
  clear B1
  clear C1
  subst hn
  have Z1 := Lib.hid z1; have Z3 := Lib.hid z3
  clear z1 z3
  go_enter Try.func8, Try.ntmps8
  go_wp2_with (first | (go_at_call 11; refine (check_yes _ _ _ _ _ _ h1 h2 h3 h4 h5 h6 h7).mono ?_; rintro e w1 ⟨rfl, hg⟩; obtain ⟨cN, fN, hc, hf, hs⟩ := hg.facts; (try simp only [World.size_alloc, World.size_drew] at hc hf hs)) | (go_at_call 21; refine (linside_b _ _ _ _ _ _ _ _ _).mono ?_; rintro e w8 ⟨rfl, hg⟩; obtain ⟨cN, fN, hc, hf, hs⟩ := hg.facts; (try simp only [World.size_alloc, World.size_drew] at hc hf hs)) | (go_at_call 15; refine (A1.out _).mono ?_; rintro e w5 ⟨rfl, hg⟩; obtain ⟨cN, fN, hc, hf, hs⟩ := hg.facts; (try simp only [World.size_alloc, World.size_drew] at hc hf hs)))
  have z1 := Z1.out
  refine wp_region_grows (by kernel_rfl) (by kernel_rfl) ?_
  repeat (first
    | go_big_quiet_skip
    | (go_big_quiet_want; go_big_quiet_op; first | go_big_quiet_on | (apply Exists.intro; refine ⟨fun _ => ?_, ?_⟩; (· (first | fail)); go_big_quiet_on)))
  refine wpQuiet_nil ?_
  intro w5 hg
  change Gr _ _ at hg
  obtain ⟨cN, fN, hc, hf, hs⟩ := hg.facts; (try simp only [World.size_alloc, World.size_drew] at hc hf hs)
  clear Z1 z1
  go_wp2_with fail
  have z3 := Z3.out
  refine wp_region_grows (by kernel_rfl) (by kernel_rfl) ?_
  repeat (first
    | go_big_quiet_skip
    | (go_big_quiet_want; go_big_quiet_op; first | go_big_quiet_on | (apply Exists.intro; refine ⟨fun _ => ?_, ?_⟩; (· (first | fail)); go_big_quiet_on)))
  refine wpQuiet_nil ?_
  intro w6 hg
  change Gr _ _ at hg
  obtain ⟨cN, fN, hc, hf, hs⟩ := hg.facts; (try simp only [World.size_alloc, World.size_drew] at hc hf hs)
  clear Z3 z3
  go_wp2_with (first | (go_at_call 12; refine (awake_any _).mono ?_; rintro e w9 ⟨rfl, hg⟩; obtain ⟨cN, fN, hc, hf, hs⟩ := hg.facts; (try simp only [World.size_alloc, World.size_drew] at hc hf hs)))
  go_ret
  refine ⟨rfl, ?_⟩
  (repeat (first | with_reducible exact Gr.refl _ | with_reducible apply Gr.undrew | with_reducible apply Gr.undrewN | with_reducible apply Gr.drew | with_reducible apply Gr.drewN | with_reducible apply Gr.grow | with_reducible apply Gr.alloc | (with_reducible refine Gr.setCell ?_ (by first | (simp; done) | (simp; omega)) _) | with_reducible assumption | (refine Gr.trans ?_ (by with_reducible assumption))))

set_option maxHeartbeats 4000000 in
theorem ret_a3x (r c m x n u1 v1 : Int) (W H T B : Int) (o : Bool) (w : World) (m0 : 0 ≤ m) (m1 : m ≤ 255) (h1 : 1 ≤ W) (h2 : W ≤ 132) (h3 : 1 ≤ H) (h4 : H ≤ 60) (h5 : 0 ≤ T) (h6 : T < B) (h7 : B ≤ H) (g1 : 0 ≤ r) (g2 : r < H) (g3 : 0 ≤ c) (g4 : c < W) (hn : n = 1) (hs1 : T ≤ r) (hs2 : r + m % 8 < B) (hr : c + m % 8 < W) (A1 : (∀ w, Calls Try.prog 15 #[cur r c false, bnd W H T B o] w fun e w' => e = .returned (.tuple #[cur x c false, .int .i64 n]) ∧ Gr w w')) (B1 : (∀ w, Calls Try.prog 14 #[cur r c false, .int .i64 (-(m % 8)), bnd W H T B o] w fun e w' => e = .returned (cur u1 c false) ∧ Gr w w')) (C1 : (∀ w, Calls Try.prog 13 #[cur r c false, .int .i64 (m % 8), bnd W H T B o] w fun e w' => e = .returned (cur r v1 false) ∧ Gr w w')) (B2 : (∀ w, Calls Try.prog 14 #[cur u1 c false, .int .i64 (m % 8), bnd W H T B o] w fun e w' => e = .returned (cur r c false) ∧ Gr w w')) (C2 : (∀ w, Calls Try.prog 13 #[cur r v1 false, .int .i64 (-(m % 8)), bnd W H T B o] w fun e w' => e = .returned (cur r c false) ∧ Gr w w')) :
    Calls Try.prog 8 #[cur r c false, bnd W H T B o, .int .u8 m] w fun e w' => e = .returned (.bool true) ∧ Gr w w' := by
  have k0 : 0 ≤ m % 8 := by omega
  have k7 : m % 8 ≤ 7 := by omega
  have lin : decide (0 ≤ r ∧ r < H ∧ 0 ≤ c ∧ c < W ∧ false = false) = true := by simp [g1, g2, g3, g4]
  have z1 : decide (T ≤ r) = true := by simpa using hs1
  have z2 : decide (r + m % 8 < B) = true := by simpa using hs2
  have z3 : decide (c + m % 8 < W) = true := by simpa using hr
  have A1 := Lib.hid A1
  have B1 := Lib.hid B1
  have B2 := Lib.hid B2
  have C1 := Lib.hid C1
  have C2 := Lib.hid C2
  subst hn
  have Z1 := Lib.hid z1; have Z3 := Lib.hid z3
  clear z1 z3
  go_enter Try.func8, Try.ntmps8
  go_wp2_with (first | (go_at_call 11; refine (check_yes _ _ _ _ _ _ h1 h2 h3 h4 h5 h6 h7).mono ?_; rintro e w1 ⟨rfl, hg⟩; obtain ⟨cN, fN, hc, hf, hs⟩ := hg.facts; (try simp only [World.size_alloc, World.size_drew] at hc hf hs)) | (go_at_call 21; refine (linside_b _ _ _ _ _ _ _ _ _).mono ?_; rintro e w8 ⟨rfl, hg⟩; obtain ⟨cN, fN, hc, hf, hs⟩ := hg.facts; (try simp only [World.size_alloc, World.size_drew] at hc hf hs)) | (go_at_call 15; refine (A1.out _).mono ?_; rintro e w5 ⟨rfl, hg⟩; obtain ⟨cN, fN, hc, hf, hs⟩ := hg.facts; (try simp only [World.size_alloc, World.size_drew] at hc hf hs)))
  have z1 := Z1.out
  refine wp_region_grows (by kernel_rfl) (by kernel_rfl) ?_
  repeat (first
    | go_big_quiet_skip
    | (go_big_quiet_want; go_big_quiet_op; first | go_big_quiet_on | (apply Exists.intro; refine ⟨fun _ => ?_, ?_⟩; (· (first | (with_reducible exact Calls.gr_of (B1.out _)) | (with_reducible exact Calls.gr_of (B2.out _)))); go_big_quiet_on)))
  refine wpQuiet_nil ?_
  intro w5 hg
  change Gr _ _ at hg
  obtain ⟨cN, fN, hc, hf, hs⟩ := hg.facts; (try simp only [World.size_alloc, World.size_drew] at hc hf hs)
  clear Z1 z1
  go_wp2_with fail
  have z3 := Z3.out
  refine wp_region_grows (by kernel_rfl) (by kernel_rfl) ?_
  repeat (first
    | go_big_quiet_skip
    | (go_big_quiet_want; go_big_quiet_op; first | go_big_quiet_on | (apply Exists.intro; refine ⟨fun _ => ?_, ?_⟩; (· (first | (with_reducible exact Calls.gr_of (C1.out _)) | (with_reducible exact Calls.gr_of (C2.out _)))); go_big_quiet_on)))
  refine wpQuiet_nil ?_
  intro w6 hg
  change Gr _ _ at hg
  obtain ⟨cN, fN, hc, hf, hs⟩ := hg.facts; (try simp only [World.size_alloc, World.size_drew] at hc hf hs)
  clear Z3 z3
  go_wp2_with (first | (go_at_call 12; refine (awake_any _).mono ?_; rintro e w9 ⟨rfl, hg⟩; obtain ⟨cN, fN, hc, hf, hs⟩ := hg.facts; (try simp only [World.size_alloc, World.size_drew] at hc hf hs)))
  go_ret
  refine ⟨rfl, ?_⟩
  (repeat (first | with_reducible exact Gr.refl _ | with_reducible apply Gr.undrew | with_reducible apply Gr.undrewN | with_reducible apply Gr.drew | with_reducible apply Gr.drewN | with_reducible apply Gr.grow | with_reducible apply Gr.alloc | (with_reducible refine Gr.setCell ?_ (by first | (simp; done) | (simp; omega)) _) | with_reducible assumption | (refine Gr.trans ?_ (by with_reducible assumption))))

set_option maxHeartbeats 4000000 in
theorem ret_a3y (r c m x n u1 v1 : Int) (W H T B : Int) (o : Bool) (w : World) (m0 : 0 ≤ m) (m1 : m ≤ 255) (h1 : 1 ≤ W) (h2 : W ≤ 132) (h3 : 1 ≤ H) (h4 : H ≤ 60) (h5 : 0 ≤ T) (h6 : T < B) (h7 : B ≤ H) (g1 : 0 ≤ r) (g2 : r < H) (g3 : 0 ≤ c) (g4 : c < W) (hn : n = 1) (hs1 : T ≤ r) (hs2 : r + m % 8 < B) (hr : ¬ c + m % 8 < W) (A1 : (∀ w, Calls Try.prog 15 #[cur r c false, bnd W H T B o] w fun e w' => e = .returned (.tuple #[cur x c false, .int .i64 n]) ∧ Gr w w')) (B1 : (∀ w, Calls Try.prog 14 #[cur r c false, .int .i64 (-(m % 8)), bnd W H T B o] w fun e w' => e = .returned (cur u1 c false) ∧ Gr w w')) (C1 : (∀ w, Calls Try.prog 13 #[cur r c false, .int .i64 (m % 8), bnd W H T B o] w fun e w' => e = .returned (cur r v1 false) ∧ Gr w w')) (B2 : (∀ w, Calls Try.prog 14 #[cur u1 c false, .int .i64 (m % 8), bnd W H T B o] w fun e w' => e = .returned (cur r c false) ∧ Gr w w')) :
    Calls Try.prog 8 #[cur r c false, bnd W H T B o, .int .u8 m] w fun e w' => e = .returned (.bool true) ∧ Gr w w' := by
  have k0 : 0 ≤ m % 8 := by omega
  have k7 : m % 8 ≤ 7 := by omega
  have lin : decide (0 ≤ r ∧ r < H ∧ 0 ≤ c ∧ c < W ∧ false = false) = true := by simp [g1, g2, g3, g4]
  have z1 : decide (T ≤ r) = true := by simpa using hs1
  have z2 : decide (r + m % 8 < B) = true := by simpa using hs2
  have z3 : decide (c + m % 8 < W) = false := by simpa using hr
  have A1 := Lib.hid A1
  have B1 := Lib.hid B1
  have B2 := Lib.hid B2
  clear C1
  subst hn
  have Z1 := Lib.hid z1; have Z3 := Lib.hid z3
  clear z1 z3
  go_enter Try.func8, Try.ntmps8
  go_wp2_with (first | (go_at_call 11; refine (check_yes _ _ _ _ _ _ h1 h2 h3 h4 h5 h6 h7).mono ?_; rintro e w1 ⟨rfl, hg⟩; obtain ⟨cN, fN, hc, hf, hs⟩ := hg.facts; (try simp only [World.size_alloc, World.size_drew] at hc hf hs)) | (go_at_call 21; refine (linside_b _ _ _ _ _ _ _ _ _).mono ?_; rintro e w8 ⟨rfl, hg⟩; obtain ⟨cN, fN, hc, hf, hs⟩ := hg.facts; (try simp only [World.size_alloc, World.size_drew] at hc hf hs)) | (go_at_call 15; refine (A1.out _).mono ?_; rintro e w5 ⟨rfl, hg⟩; obtain ⟨cN, fN, hc, hf, hs⟩ := hg.facts; (try simp only [World.size_alloc, World.size_drew] at hc hf hs)))
  have z1 := Z1.out
  refine wp_region_grows (by kernel_rfl) (by kernel_rfl) ?_
  repeat (first
    | go_big_quiet_skip
    | (go_big_quiet_want; go_big_quiet_op; first | go_big_quiet_on | (apply Exists.intro; refine ⟨fun _ => ?_, ?_⟩; (· (first | (with_reducible exact Calls.gr_of (B1.out _)) | (with_reducible exact Calls.gr_of (B2.out _)))); go_big_quiet_on)))
  refine wpQuiet_nil ?_
  intro w5 hg
  change Gr _ _ at hg
  obtain ⟨cN, fN, hc, hf, hs⟩ := hg.facts; (try simp only [World.size_alloc, World.size_drew] at hc hf hs)
  clear Z1 z1
  go_wp2_with fail
  have z3 := Z3.out
  refine wp_region_grows (by kernel_rfl) (by kernel_rfl) ?_
  repeat (first
    | go_big_quiet_skip
    | (go_big_quiet_want; go_big_quiet_op; first | go_big_quiet_on | (apply Exists.intro; refine ⟨fun _ => ?_, ?_⟩; (· (first | fail)); go_big_quiet_on)))
  refine wpQuiet_nil ?_
  intro w6 hg
  change Gr _ _ at hg
  obtain ⟨cN, fN, hc, hf, hs⟩ := hg.facts; (try simp only [World.size_alloc, World.size_drew] at hc hf hs)
  clear Z3 z3
  go_wp2_with (first | (go_at_call 12; refine (awake_any _).mono ?_; rintro e w9 ⟨rfl, hg⟩; obtain ⟨cN, fN, hc, hf, hs⟩ := hg.facts; (try simp only [World.size_alloc, World.size_drew] at hc hf hs)))
  go_ret
  refine ⟨rfl, ?_⟩
  (repeat (first | with_reducible exact Gr.refl _ | with_reducible apply Gr.undrew | with_reducible apply Gr.undrewN | with_reducible apply Gr.drew | with_reducible apply Gr.drewN | with_reducible apply Gr.grow | with_reducible apply Gr.alloc | (with_reducible refine Gr.setCell ?_ (by first | (simp; done) | (simp; omega)) _) | with_reducible assumption | (refine Gr.trans ?_ (by with_reducible assumption))))

end Go.Proofs.Ytghhanophenhbaa
