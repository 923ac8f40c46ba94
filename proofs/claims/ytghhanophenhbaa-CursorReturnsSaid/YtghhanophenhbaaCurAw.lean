/- The examples of chapter 10 hold. -/
import Derived.Test.YtghhanophenhbaaCurF
namespace Go.Proofs.Ytghhanophenhbaa
set_option linter.unusedSimpArgs false
set_option linter.unusedVariables false
set_option linter.unusedSectionVars false
open Go.RowKit

theorem aw_up2 (w : World) : Calls Try.prog 14 #[cur 2 0 false, .int .i64 9, bnd 10 5 1 4 false] w fun e w' => e = .returned (cur 1 0 false) ∧ Gr w w' :=
  (up_yes 2 0 9 false 10 5 1 4 false w (by decide) (by decide) (by decide) (by decide) (by decide) (by decide) (by decide)).mono fun e w' h => ⟨h.1.trans (by kernel_rfl), h.2⟩
theorem aw_up4 (w : World) : Calls Try.prog 14 #[cur 4 0 false, .int .i64 9, bnd 10 5 1 4 false] w fun e w' => e = .returned (cur 0 0 false) ∧ Gr w w' :=
  (up_yes 4 0 9 false 10 5 1 4 false w (by decide) (by decide) (by decide) (by decide) (by decide) (by decide) (by decide)).mono fun e w' h => ⟨h.1.trans (by kernel_rfl), h.2⟩
theorem aw_feed (w : World) : Calls Try.prog 15 #[cur 3 0 false, bnd 10 5 1 4 false] w fun e w' => e = .returned (.tuple #[cur 3 0 false, .int .i64 1]) ∧ Gr w w' :=
  (feed_yes 3 0 false 10 5 1 4 false w (by decide) (by decide) (by decide) (by decide) (by decide) (by decide) (by decide)).mono fun e w' h => ⟨h.1.trans (by kernel_rfl), h.2⟩

set_option maxHeartbeats 2000000 in
theorem awake_any (w : World) : Calls Try.prog 12 #[] w fun e w' => e = .returned (.bool true) ∧ Gr w w' := by
  go_enter Try.func12, Try.ntmps12
  go_wp2_with (first
    | (go_at_call 15; refine (aw_feed _).mono ?_; rintro e w1 ⟨rfl, hg⟩; obtain ⟨cN, fN, hc, hf, hs⟩ := hg.facts; (try simp only [World.size_alloc, World.size_drew] at hc hf hs))
    | (go_at_call 14; ((with_reducible refine (aw_up2 _).mono ?_); rintro e w2 ⟨rfl, hg⟩; obtain ⟨cN, fN, hc, hf, hs⟩ := hg.facts; (try simp only [World.size_alloc, World.size_drew] at hc hf hs)))
    | (go_at_call 14; ((with_reducible refine (aw_up4 _).mono ?_); rintro e w3 ⟨rfl, hg⟩; obtain ⟨cN, fN, hc, hf, hs⟩ := hg.facts; (try simp only [World.size_alloc, World.size_drew] at hc hf hs)))
    | (go_at_call 11; refine (check_yes _ _ _ _ _ _ (by decide) (by decide) (by decide) (by decide) (by decide) (by decide) (by decide)).mono ?_; rintro e w4 ⟨rfl, hg⟩; obtain ⟨cN, fN, hc, hf, hs⟩ := hg.facts; (try simp only [World.size_alloc, World.size_drew] at hc hf hs)))
  go_ret
  refine ⟨rfl, ?_⟩
  (repeat (first | with_reducible exact Gr.refl _ | with_reducible apply Gr.undrew | with_reducible apply Gr.undrewN | with_reducible apply Gr.drew | with_reducible apply Gr.drewN | with_reducible apply Gr.grow | with_reducible apply Gr.alloc | (with_reducible refine Gr.setCell ?_ (by first | (simp; done) | (simp; omega)) _) | with_reducible assumption | (refine Gr.trans ?_ (by with_reducible assumption))))
end Go.Proofs.Ytghhanophenhbaa
