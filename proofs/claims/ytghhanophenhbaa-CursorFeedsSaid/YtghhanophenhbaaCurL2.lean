/- The walk of the law CursorFeeds. -/
import Derived.Test.YtghhanophenhbaaCurP
import Derived.Test.YtghhanophenhbaaCurAw
namespace Go.Proofs.Ytghhanophenhbaa
set_option linter.unusedSimpArgs false
set_option linter.unusedVariables false
set_option linter.unusedSectionVars false
open Go.RowKit
set_option linter.unusedVariables false

set_option maxHeartbeats 2000000 in
theorem walk_CursorFeeds (r c : Int) (p : Bool) (W H T B : Int) (o : Bool) (w : World) :
    Calls Try.prog 4 #[cur r c p, bnd W H T B o] w fun e w' => e = .returned (.bool true) ∧ Gr w w' := by
  obtain ⟨a, b, k, A, A'⟩ := pair_feed r c p W H T B o
  obtain ⟨a2, b2, k2, B1, B1'⟩ := pair_reverse r c p W H T B o
  have A := Lib.hid A; have A' := Lib.hid A'; have B1 := Lib.hid B1; have B1' := Lib.hid B1'
  go_enter Try.func4, Try.ntmps4
  go_wp2_with (first | (go_at_call 15; refine (A.out _).mono ?_; rintro e w1 ⟨rfl, hg⟩; obtain ⟨cN, fN, hc, hf, hs⟩ := hg.facts; (try simp only [World.size_alloc, World.size_drew] at hc hf hs)) | (go_at_call 16; refine (A'.out _).mono ?_; rintro e w2 ⟨rfl, hg⟩; obtain ⟨cN, fN, hc, hf, hs⟩ := hg.facts; (try simp only [World.size_alloc, World.size_drew] at hc hf hs)) | (go_at_call 17; refine (B1.out _).mono ?_; rintro e w3 ⟨rfl, hg⟩; obtain ⟨cN, fN, hc, hf, hs⟩ := hg.facts; (try simp only [World.size_alloc, World.size_drew] at hc hf hs)) | (go_at_call 18; refine (B1'.out _).mono ?_; rintro e w4 ⟨rfl, hg⟩; obtain ⟨cN, fN, hc, hf, hs⟩ := hg.facts; (try simp only [World.size_alloc, World.size_drew] at hc hf hs)) | (go_at_call 12; refine (awake_any _).mono ?_; rintro e w9 ⟨rfl, hg⟩; obtain ⟨cN, fN, hc, hf, hs⟩ := hg.facts; (try simp only [World.size_alloc, World.size_drew] at hc hf hs)))
  go_ret
  refine ⟨rfl, ?_⟩
  (repeat (first | with_reducible exact Gr.refl _ | with_reducible apply Gr.undrew | with_reducible apply Gr.undrewN | with_reducible apply Gr.drew | with_reducible apply Gr.drewN | with_reducible apply Gr.grow | with_reducible apply Gr.alloc | (with_reducible refine Gr.setCell ?_ (by first | (simp; done) | (simp; omega)) _) | with_reducible assumption | (refine Gr.trans ?_ (by with_reducible assumption))))

end Go.Proofs.Ytghhanophenhbaa
