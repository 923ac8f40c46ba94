/- The walk of the law CursorAddress. -/
import Derived.Test.YtghhanophenhbaaCurF
import Derived.Test.YtghhanophenhbaaCurAw
namespace Go.Proofs.Ytghhanophenhbaa
set_option linter.unusedSimpArgs false
set_option linter.unusedVariables false
set_option linter.unusedSectionVars false
open Go.RowKit
set_option linter.unusedVariables false

theorem addr_false (r c i k : Int) (p : Bool) (W H T B : Int) (h1 : 1 ≤ W) (h2 : W ≤ 132) (h3 : 1 ≤ H) (h4 : H ≤ 60) (h5 : 0 ≤ T) (h6 : T < B) (h7 : B ≤ H) (i0 : 0 ≤ i) (i1 : i < H) (k0 : 0 ≤ k) (k1 : k < W) :
    (∀ w, Calls Try.prog 20 #[cur r c p, .int .i64 (i + 1), .int .i64 (k + 1), bnd W H T B false] w fun e w' => e = .returned (cur i k false) ∧ Gr w w') ∧ (∀ w, Calls Try.prog 20 #[cur r c p, .int .i64 0, .int .i64 0, bnd W H T B false] w fun e w' => e = .returned (cur 0 0 false) ∧ Gr w w') := by
  refine ⟨fun w => (to_yes r c (i + 1) (k + 1) p W H T B false w h1 h2 h3 h4 h5 h6 h7).mono fun e w' h => ⟨h.1.trans ?_, h.2⟩, fun w => (to_yes r c 0 0 p W H T B false w h1 h2 h3 h4 h5 h6 h7).mono fun e w' h => ⟨h.1.trans ?_, h.2⟩⟩
  · have e1 : toRow false (i + 1) H T B = i := by unfold toRow lim; simp only [Bool.false_eq_true, if_false]; omega
    have e2 : toCol (k + 1) W = k := by unfold toCol lim; omega
    rw [e1, e2]
  · have e1 : toRow false 0 H T B = 0 := by unfold toRow lim; simp only [Bool.false_eq_true, if_false]; omega
    have e2 : toCol 0 W = 0 := by unfold toCol lim; omega
    rw [e1, e2]
theorem addr_true (r c i k : Int) (p : Bool) (W H T B : Int) (h1 : 1 ≤ W) (h2 : W ≤ 132) (h3 : 1 ≤ H) (h4 : H ≤ 60) (h5 : 0 ≤ T) (h6 : T < B) (h7 : B ≤ H) (i0 : 0 ≤ i) (i1 : i < B - T) (k0 : 0 ≤ k) (k1 : k < W) :
    (∀ w, Calls Try.prog 20 #[cur r c p, .int .i64 (i + 1), .int .i64 (k + 1), bnd W H T B true] w fun e w' => e = .returned (cur (T + i) k false) ∧ Gr w w') ∧ (∀ w, Calls Try.prog 20 #[cur r c p, .int .i64 0, .int .i64 0, bnd W H T B true] w fun e w' => e = .returned (cur T 0 false) ∧ Gr w w') := by
  refine ⟨fun w => (to_yes r c (i + 1) (k + 1) p W H T B true w h1 h2 h3 h4 h5 h6 h7).mono fun e w' h => ⟨h.1.trans ?_, h.2⟩, fun w => (to_yes r c 0 0 p W H T B true w h1 h2 h3 h4 h5 h6 h7).mono fun e w' h => ⟨h.1.trans ?_, h.2⟩⟩
  · have e1 : toRow true (i + 1) H T B = T + i := by unfold toRow lim; simp only [if_true]; omega
    have e2 : toCol (k + 1) W = k := by unfold toCol lim; omega
    rw [e1, e2]
  · have e1 : toRow true 0 H T B = T := by unfold toRow lim; simp only [if_true]; omega
    have e2 : toCol 0 W = 0 := by unfold toCol lim; omega
    rw [e1, e2]

set_option maxHeartbeats 4000000 in
theorem walk_CursorAddress (r c : Int) (p : Bool) (W H T B : Int) (o : Bool) (row : Int) (wr : (Lit.int .u8 row).wf = true) (col : Int) (wc : (Lit.int .u8 col).wf = true) (w : World) :
    Calls Try.prog 7 #[cur r c p, bnd W H T B o, .int .u8 row, .int .u8 col] w fun e w' => e = .returned (.bool true) ∧ Gr w w' := by
  obtain ⟨r0, r1⟩ := bounds_u8 wr
  obtain ⟨c0, c1⟩ := bounds_u8 wc
  clear wr wc
  by_cases hok : okB W H T B
  · obtain ⟨h1, h2, h3, h4, h5, h6, h7⟩ := hok
    have d1 : 0 ≤ col % W := Int.emod_nonneg _ (by omega)
    have d2 : col % W < W := Int.emod_lt_of_pos _ (by omega)
    have d3 : 0 ≤ row % H := Int.emod_nonneg _ (by omega)
    have d4 : row % H < H := Int.emod_lt_of_pos _ (by omega)
    have d5 : 0 ≤ row % (B - T) := Int.emod_nonneg _ (by omega)
    have d6 : row % (B - T) < B - T := Int.emod_lt_of_pos _ (by omega)
    cases o
    · obtain ⟨A, A'⟩ := addr_false r c (row % H) (col % W) p W H T B h1 h2 h3 h4 h5 h6 h7 d3 d4 d1 d2
      have A := Lib.hid A; have A' := Lib.hid A'
      go_enter Try.func7, Try.ntmps7
      go_wp2_with (first | (go_at_call 11; refine (check_yes _ _ _ _ _ _ h1 h2 h3 h4 h5 h6 h7).mono ?_; rintro e w1 ⟨rfl, hg⟩; obtain ⟨cN, fN, hc, hf, hs⟩ := hg.facts; (try simp only [World.size_alloc, World.size_drew] at hc hf hs)) | (go_at_call 20; ((with_reducible refine (A.out _).mono ?_); rintro e w2 ⟨rfl, hg⟩; obtain ⟨cN, fN, hc, hf, hs⟩ := hg.facts; (try simp only [World.size_alloc, World.size_drew] at hc hf hs))) | (go_at_call 20; ((with_reducible refine (A'.out _).mono ?_); rintro e w3 ⟨rfl, hg⟩; obtain ⟨cN, fN, hc, hf, hs⟩ := hg.facts; (try simp only [World.size_alloc, World.size_drew] at hc hf hs))) | (go_at_call 12; refine (awake_any _).mono ?_; rintro e w9 ⟨rfl, hg⟩; obtain ⟨cN, fN, hc, hf, hs⟩ := hg.facts; (try simp only [World.size_alloc, World.size_drew] at hc hf hs)))
      go_ret
      refine ⟨rfl, ?_⟩
      (repeat (first | with_reducible exact Gr.refl _ | with_reducible apply Gr.undrew | with_reducible apply Gr.undrewN | with_reducible apply Gr.drew | with_reducible apply Gr.drewN | with_reducible apply Gr.grow | with_reducible apply Gr.alloc | (with_reducible refine Gr.setCell ?_ (by first | (simp; done) | (simp; omega)) _) | with_reducible assumption | (refine Gr.trans ?_ (by with_reducible assumption))))
    · obtain ⟨A, A'⟩ := addr_true r c (row % (B - T)) (col % W) p W H T B h1 h2 h3 h4 h5 h6 h7 d5 d6 d1 d2
      have A := Lib.hid A; have A' := Lib.hid A'
      go_enter Try.func7, Try.ntmps7
      go_wp2_with (first | (go_at_call 11; refine (check_yes _ _ _ _ _ _ h1 h2 h3 h4 h5 h6 h7).mono ?_; rintro e w1 ⟨rfl, hg⟩; obtain ⟨cN, fN, hc, hf, hs⟩ := hg.facts; (try simp only [World.size_alloc, World.size_drew] at hc hf hs)))
      refine wp_region_grows (by kernel_rfl) (by kernel_rfl) ?_
      repeat (first
        | go_big_quiet_skip
        | (go_big_quiet_want; go_big_quiet_op; first | go_big_quiet_on | (apply Exists.intro; refine ⟨fun _ => ?_, ?_⟩; (· (fail)); go_big_quiet_on)))
      refine wpQuiet_nil ?_
      intro w5 hg
      change Gr _ _ at hg
      obtain ⟨cN, fN, hc, hf, hs⟩ := hg.facts; (try simp only [World.size_alloc, World.size_drew] at hc hf hs)
      go_wp2_with (first | (go_at_call 20; ((with_reducible refine (A.out _).mono ?_); rintro e w2 ⟨rfl, hg⟩; obtain ⟨cN, fN, hc, hf, hs⟩ := hg.facts; (try simp only [World.size_alloc, World.size_drew] at hc hf hs))) | (go_at_call 20; ((with_reducible refine (A'.out _).mono ?_); rintro e w3 ⟨rfl, hg⟩; obtain ⟨cN, fN, hc, hf, hs⟩ := hg.facts; (try simp only [World.size_alloc, World.size_drew] at hc hf hs))) | (go_at_call 12; refine (awake_any _).mono ?_; rintro e w9 ⟨rfl, hg⟩; obtain ⟨cN, fN, hc, hf, hs⟩ := hg.facts; (try simp only [World.size_alloc, World.size_drew] at hc hf hs)))
      go_ret
      refine ⟨rfl, ?_⟩
      (repeat (first | with_reducible exact Gr.refl _ | with_reducible apply Gr.undrew | with_reducible apply Gr.undrewN | with_reducible apply Gr.drew | with_reducible apply Gr.drewN | with_reducible apply Gr.grow | with_reducible apply Gr.alloc | (with_reducible refine Gr.setCell ?_ (by first | (simp; done) | (simp; omega)) _) | with_reducible assumption | (refine Gr.trans ?_ (by with_reducible assumption))))
  · go_enter Try.func7, Try.ntmps7
    go_wp2_with (first | (go_at_call 11; refine (check_no _ _ _ _ _ _ hok).mono ?_; rintro e w1 ⟨rfl, hg⟩; obtain ⟨cN, fN, hc, hf, hs⟩ := hg.facts; (try simp only [World.size_alloc, World.size_drew] at hc hf hs)) | (go_at_call 12; refine (awake_any _).mono ?_; rintro e w9 ⟨rfl, hg⟩; obtain ⟨cN, fN, hc, hf, hs⟩ := hg.facts; (try simp only [World.size_alloc, World.size_drew] at hc hf hs)))
    go_ret
    refine ⟨rfl, ?_⟩
    (repeat (first | with_reducible exact Gr.refl _ | with_reducible apply Gr.undrew | with_reducible apply Gr.undrewN | with_reducible apply Gr.drew | with_reducible apply Gr.drewN | with_reducible apply Gr.grow | with_reducible apply Gr.alloc | (with_reducible refine Gr.setCell ?_ (by first | (simp; done) | (simp; omega)) _) | with_reducible assumption | (refine Gr.trans ?_ (by with_reducible assumption))))

end Go.Proofs.Ytghhanophenhbaa
