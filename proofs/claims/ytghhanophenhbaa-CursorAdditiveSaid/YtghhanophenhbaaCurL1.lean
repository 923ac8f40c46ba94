/- The walk of the law CursorAdditive. -/
import Derived.Test.YtghhanophenhbaaCurAw
namespace Go.Proofs.Ytghhanophenhbaa
set_option linter.unusedSimpArgs false
set_option linter.unusedVariables false
set_option linter.unusedSectionVars false
open Go.RowKit

theorem add_right (r c i k : Int) (p : Bool) (W H T B : Int) (o : Bool) (h1 : 1 ≤ W) (h2 : W ≤ 132) (h3 : 1 ≤ H) (h4 : H ≤ 60) (h5 : 0 ≤ T) (h6 : T < B) (h7 : B ≤ H) (hs : (0 ≤ i ∧ 0 ≤ k) ∨ (i ≤ 0 ∧ k ≤ 0)) (hi1 : -255 ≤ i) (hi2 : i ≤ 255) (hk1 : -255 ≤ k) (hk2 : k ≤ 255) :
    ∃ r1 c1 r2 c2 : Int, (∀ w, Calls Try.prog 13 #[cur r c p, .int .i64 i, bnd W H T B o] w fun e w' => e = .returned (cur r1 c1 false) ∧ Gr w w') ∧
      (∀ w, Calls Try.prog 13 #[cur r1 c1 false, .int .i64 k, bnd W H T B o] w fun e w' => e = .returned (cur r2 c2 false) ∧ Gr w w') ∧
      (∀ w, Calls Try.prog 13 #[cur r c p, .int .i64 (i + k), bnd W H T B o] w fun e w' => e = .returned (cur r2 c2 false) ∧ Gr w w') := by
  refine ⟨_, _, _, _, fun w => right_yes r c i p W H T B o w h1 h2 h3 h4 h5 h6 h7, fun w => right_yes _ _ k false W H T B o w h1 h2 h3 h4 h5 h6 h7, fun w => (right_yes r c (i + k) p W H T B o w h1 h2 h3 h4 h5 h6 h7).mono fun e w' h => ⟨h.1.trans ?_, h.2⟩⟩
  rw [lim_idem r _ _ (by omega), lim_idem (lim c 0 (W - 1) + _) _ _ (by omega)]
  have e : lim (lim c 0 (W - 1) + lim (i + k) (-1000) 1000) 0 (W - 1) = lim (lim (lim c 0 (W - 1) + lim i (-1000) 1000) 0 (W - 1) + lim k (-1000) 1000) 0 (W - 1) := by
    unfold lim
    rcases hs with hs | hs <;> omega
  rw [e]
theorem add_up (r c i k : Int) (p : Bool) (W H T B : Int) (o : Bool) (h1 : 1 ≤ W) (h2 : W ≤ 132) (h3 : 1 ≤ H) (h4 : H ≤ 60) (h5 : 0 ≤ T) (h6 : T < B) (h7 : B ≤ H) (hr1 : T ≤ r) (hr2 : r < B) (hs : (0 ≤ i ∧ 0 ≤ k) ∨ (i ≤ 0 ∧ k ≤ 0)) (hi1 : -255 ≤ i) (hi2 : i ≤ 255) (hk1 : -255 ≤ k) (hk2 : k ≤ 255) :
    ∃ r1 c1 r2 c2 : Int, (∀ w, Calls Try.prog 14 #[cur r c p, .int .i64 i, bnd W H T B o] w fun e w' => e = .returned (cur r1 c1 false) ∧ Gr w w') ∧
      (∀ w, Calls Try.prog 14 #[cur r1 c1 false, .int .i64 k, bnd W H T B o] w fun e w' => e = .returned (cur r2 c2 false) ∧ Gr w w') ∧
      (∀ w, Calls Try.prog 14 #[cur r c p, .int .i64 (i + k), bnd W H T B o] w fun e w' => e = .returned (cur r2 c2 false) ∧ Gr w w') := by
  refine ⟨_, _, _, _, fun w => up_yes r c i p W H T B o w h1 h2 h3 h4 h5 h6 h7, fun w => up_yes _ _ k false W H T B o w h1 h2 h3 h4 h5 h6 h7, fun w => (up_yes r c (i + k) p W H T B o w h1 h2 h3 h4 h5 h6 h7).mono fun e w' h => ⟨h.1.trans ?_, h.2⟩⟩
  rw [lim_idem c _ _ (by omega)]
  have e0 : lim r 0 (H - 1) = r := by unfold lim; omega
  rw [e0]
  have a1 : upRow r i H T B = lim (r - lim i (-1000) 1000) T (B - 1) := by unfold upRow; rw [if_pos ⟨hr1, hr2⟩]
  have b1 := lim_ge (r - lim i (-1000) 1000) T (B - 1)
  have b2 := lim_le (r - lim i (-1000) 1000) T (B - 1) (by omega)
  have e1 : lim (upRow r i H T B) 0 (H - 1) = upRow r i H T B := by rw [a1]; unfold lim at b1 b2 ⊢; omega
  rw [e1, a1]
  have a2 : upRow (lim (r - lim i (-1000) 1000) T (B - 1)) k H T B = lim (lim (r - lim i (-1000) 1000) T (B - 1) - lim k (-1000) 1000) T (B - 1) := by unfold upRow; rw [if_pos ⟨b1, by omega⟩]
  have a3 : upRow r (i + k) H T B = lim (r - lim (i + k) (-1000) 1000) T (B - 1) := by unfold upRow; rw [if_pos ⟨hr1, hr2⟩]
  rw [a2, a3]
  have e : lim (r - lim (i + k) (-1000) 1000) T (B - 1) = lim (lim (r - lim i (-1000) 1000) T (B - 1) - lim k (-1000) 1000) T (B - 1) := by
    clear a1 a2 a3 b1 b2 e1 e0
    unfold lim
    rcases hs with hs | hs <;> omega
  rw [e]


set_option maxHeartbeats 2000000 in
theorem additive_forth (r c : Int) (p : Bool) (W H T B : Int) (o : Bool) (m n : Int) (w : World) (m0 : 0 ≤ m) (m1 : m ≤ 255) (n0 : 0 ≤ n) (n1 : n ≤ 255) (h1 : 1 ≤ W) (h2 : W ≤ 132) (h3 : 1 ≤ H) (h4 : H ≤ 60) (h5 : 0 ≤ T) (h6 : T < B) (h7 : B ≤ H) (hr1 : T ≤ r) (hr2 : r < B) :
    Calls Try.prog 3 #[cur r c p, bnd W H T B o, .int .u8 m, .int .u8 n, .bool false] w fun e w' => e = .returned (.bool true) ∧ Gr w w' := by
  obtain ⟨a1, a2, a3, a4, A1, A2, A3⟩ := add_right r c m n p W H T B o h1 h2 h3 h4 h5 h6 h7 (.inl ⟨m0, n0⟩) (by omega) (by omega) (by omega) (by omega)
  obtain ⟨b1, b2, b3, b4, B1, B2, B3⟩ := add_up r c m n p W H T B o h1 h2 h3 h4 h5 h6 h7 hr1 hr2 (.inl ⟨m0, n0⟩) (by omega) (by omega) (by omega) (by omega)
  have A1 := Lib.hid A1; have A2 := Lib.hid A2; have A3 := Lib.hid A3; have B1 := Lib.hid B1; have B2 := Lib.hid B2; have B3 := Lib.hid B3
  go_enter Try.func3, Try.ntmps3
  go_wp2_with (first
    | (go_at_call 11; refine (check_yes _ _ _ _ _ _ h1 h2 h3 h4 h5 h6 h7).mono ?_; rintro e w1 ⟨rfl, hg⟩; obtain ⟨cN, fN, hc, hf, hs⟩ := hg.facts; (try simp only [World.size_alloc, World.size_drew] at hc hf hs)))
  refine wp_region_grows (by kernel_rfl) (by kernel_rfl) ?_
  repeat (first
    | go_big_quiet_skip
    | (go_big_quiet_want; go_big_quiet_op; first | go_big_quiet_on | (apply Exists.intro; refine ⟨fun _ => ?_, ?_⟩; (· (first | (with_reducible exact Calls.gr_of (A1.out _)) | (with_reducible exact Calls.gr_of (A2.out _)) | (with_reducible exact Calls.gr_of (A3.out _)) | (with_reducible exact Calls.gr_of (B1.out _)) | (with_reducible exact Calls.gr_of (B2.out _)) | (with_reducible exact Calls.gr_of (B3.out _)) | (with_reducible exact Calls.gr_of (awake_any _)))); go_big_quiet_on)))
  refine wpQuiet_nil ?_
  rintro w2 ⟨x, rfl⟩
  go_wp2
  go_ret
  refine ⟨rfl, ?_⟩
  (repeat (first | with_reducible exact Gr.refl _ | with_reducible apply Gr.undrew | with_reducible apply Gr.undrewN | with_reducible apply Gr.drew | with_reducible apply Gr.drewN | with_reducible apply Gr.grow | with_reducible apply Gr.alloc | (with_reducible refine Gr.setCell ?_ (by first | (simp; done) | (simp; omega)) _) | with_reducible assumption | (refine Gr.trans ?_ (by with_reducible assumption))))

set_option maxHeartbeats 2000000 in
theorem additive_back (r c : Int) (p : Bool) (W H T B : Int) (o : Bool) (m n : Int) (w : World) (m0 : 0 ≤ m) (m1 : m ≤ 255) (n0 : 0 ≤ n) (n1 : n ≤ 255) (h1 : 1 ≤ W) (h2 : W ≤ 132) (h3 : 1 ≤ H) (h4 : H ≤ 60) (h5 : 0 ≤ T) (h6 : T < B) (h7 : B ≤ H) (hr1 : T ≤ r) (hr2 : r < B) :
    Calls Try.prog 3 #[cur r c p, bnd W H T B o, .int .u8 m, .int .u8 n, .bool true] w fun e w' => e = .returned (.bool true) ∧ Gr w w' := by
  obtain ⟨a1, a2, a3, a4, A1, A2, A3⟩ := add_right r c (-m) (-n) p W H T B o h1 h2 h3 h4 h5 h6 h7 (.inr ⟨by omega, by omega⟩) (by omega) (by omega) (by omega) (by omega)
  obtain ⟨b1, b2, b3, b4, B1, B2, B3⟩ := add_up r c (-m) (-n) p W H T B o h1 h2 h3 h4 h5 h6 h7 hr1 hr2 (.inr ⟨by omega, by omega⟩) (by omega) (by omega) (by omega) (by omega)
  have A1 := Lib.hid A1; have A2 := Lib.hid A2; have A3 := Lib.hid A3; have B1 := Lib.hid B1; have B2 := Lib.hid B2; have B3 := Lib.hid B3
  go_enter Try.func3, Try.ntmps3
  go_wp2_with (first
    | (go_at_call 11; refine (check_yes _ _ _ _ _ _ h1 h2 h3 h4 h5 h6 h7).mono ?_; rintro e w1 ⟨rfl, hg⟩; obtain ⟨cN, fN, hc, hf, hs⟩ := hg.facts; (try simp only [World.size_alloc, World.size_drew] at hc hf hs)))
  refine wp_region_grows (by kernel_rfl) (by kernel_rfl) ?_
  repeat (first
    | go_big_quiet_skip
    | (go_big_quiet_want; go_big_quiet_op; first | go_big_quiet_on | (apply Exists.intro; refine ⟨fun _ => ?_, ?_⟩; (· (first | (with_reducible exact Calls.gr_of (A1.out _)) | (with_reducible exact Calls.gr_of (A2.out _)) | (with_reducible exact Calls.gr_of (A3.out _)) | (with_reducible exact Calls.gr_of (B1.out _)) | (with_reducible exact Calls.gr_of (B2.out _)) | (with_reducible exact Calls.gr_of (B3.out _)) | (with_reducible exact Calls.gr_of (awake_any _)))); go_big_quiet_on)))
  refine wpQuiet_nil ?_
  rintro w2 ⟨x, rfl⟩
  go_wp2
  go_ret
  refine ⟨rfl, ?_⟩
  (repeat (first | with_reducible exact Gr.refl _ | with_reducible apply Gr.undrew | with_reducible apply Gr.undrewN | with_reducible apply Gr.drew | with_reducible apply Gr.drewN | with_reducible apply Gr.grow | with_reducible apply Gr.alloc | (with_reducible refine Gr.setCell ?_ (by first | (simp; done) | (simp; omega)) _) | with_reducible assumption | (refine Gr.trans ?_ (by with_reducible assumption))))

set_option maxHeartbeats 2000000 in
theorem walk_CursorAdditive (r c : Int) (p : Bool) (W H T B : Int) (o : Bool) (m : Int) (wm : (Lit.int .u8 m).wf = true) (n : Int) (wn : (Lit.int .u8 n).wf = true) (back : Bool) (w : World) :
    Calls Try.prog 3 #[cur r c p, bnd W H T B o, .int .u8 m, .int .u8 n, .bool back] w fun e w' => e = .returned (.bool true) ∧ Gr w w' := by
  obtain ⟨m0, m1⟩ := bounds_u8 wm
  obtain ⟨n0, n1⟩ := bounds_u8 wn
  clear wm wn
  by_cases hok : okB W H T B
  · obtain ⟨h1, h2, h3, h4, h5, h6, h7⟩ := hok
    by_cases hr1 : T ≤ r
    · by_cases hr2 : r < B
      · cases back
        · exact additive_forth r c p W H T B o m n w m0 m1 n0 n1 h1 h2 h3 h4 h5 h6 h7 hr1 hr2
        · exact additive_back r c p W H T B o m n w m0 m1 n0 n1 h1 h2 h3 h4 h5 h6 h7 hr1 hr2
      · go_enter Try.func3, Try.ntmps3
        go_wp2_with (first | (go_at_call 11; refine (check_yes _ _ _ _ _ _ h1 h2 h3 h4 h5 h6 h7).mono ?_; rintro e w1 ⟨rfl, hg⟩; obtain ⟨cN, fN, hc, hf, hs⟩ := hg.facts; (try simp only [World.size_alloc, World.size_drew] at hc hf hs)) | (go_at_call 12; refine (awake_any _).mono ?_; rintro e w3 ⟨rfl, hg3⟩))
        go_ret
        refine ⟨rfl, ?_⟩
        (repeat (first | with_reducible exact Gr.refl _ | with_reducible apply Gr.undrew | with_reducible apply Gr.undrewN | with_reducible apply Gr.drew | with_reducible apply Gr.drewN | with_reducible apply Gr.grow | with_reducible apply Gr.alloc | (with_reducible refine Gr.setCell ?_ (by first | (simp; done) | (simp; omega)) _) | with_reducible assumption | (refine Gr.trans ?_ (by with_reducible assumption))))
    · go_enter Try.func3, Try.ntmps3
      go_wp2_with (first | (go_at_call 11; refine (check_yes _ _ _ _ _ _ h1 h2 h3 h4 h5 h6 h7).mono ?_; rintro e w1 ⟨rfl, hg⟩; obtain ⟨cN, fN, hc, hf, hs⟩ := hg.facts; (try simp only [World.size_alloc, World.size_drew] at hc hf hs)) | (go_at_call 12; refine (awake_any _).mono ?_; rintro e w3 ⟨rfl, hg3⟩))
      go_ret
      refine ⟨rfl, ?_⟩
      (repeat (first | with_reducible exact Gr.refl _ | with_reducible apply Gr.undrew | with_reducible apply Gr.undrewN | with_reducible apply Gr.drew | with_reducible apply Gr.drewN | with_reducible apply Gr.grow | with_reducible apply Gr.alloc | (with_reducible refine Gr.setCell ?_ (by first | (simp; done) | (simp; omega)) _) | with_reducible assumption | (refine Gr.trans ?_ (by with_reducible assumption))))
  · go_enter Try.func3, Try.ntmps3
    go_wp2_with (first | (go_at_call 11; refine (check_no _ _ _ _ _ _ hok).mono ?_; rintro e w1 ⟨rfl, hg⟩; obtain ⟨cN, fN, hc, hf, hs⟩ := hg.facts; (try simp only [World.size_alloc, World.size_drew] at hc hf hs)) | (go_at_call 12; refine (awake_any _).mono ?_; rintro e w3 ⟨rfl, hg3⟩))
    go_ret
    refine ⟨rfl, ?_⟩
    (repeat (first | with_reducible exact Gr.refl _ | with_reducible apply Gr.undrew | with_reducible apply Gr.undrewN | with_reducible apply Gr.drew | with_reducible apply Gr.drewN | with_reducible apply Gr.grow | with_reducible apply Gr.alloc | (with_reducible refine Gr.setCell ?_ (by first | (simp; done) | (simp; omega)) _) | with_reducible assumption | (refine Gr.trans ?_ (by with_reducible assumption))))
end Go.Proofs.Ytghhanophenhbaa
