/- The program's functions and the reference's return the same. -/
import Derived.Test.YtghhanophenhbaaCurF
import Derived.Test.YtghhanophenhbaaCurR
import Derived.Test.YtghhanophenhbaaCurS
import Derived.Test.YtghhanophenhbaaCurT
namespace Go.Proofs.Ytghhanophenhbaa
set_option linter.unusedSimpArgs false
set_option linter.unusedVariables false
set_option linter.unusedSectionVars false
open Go.RowKit
set_option linter.unusedVariables false

theorem pair_up (r c : Int) (p : Bool) (W H T B : Int) (o : Bool) (n : Int) : ∃ a b : Int, (∀ w, Calls Try.prog 14 #[cur r c p, .int .i64 n, bnd W H T B o] w fun e w' => e = .returned (cur a b false) ∧ Gr w w') ∧ (∀ w, Calls Try.prog 24 #[cur r c p, .int .i64 n, bnd W H T B o] w fun e w' => e = .returned (cur a b false) ∧ Gr w w') := by
  by_cases hok : okB W H T B
  · obtain ⟨h1, h2, h3, h4, h5, h6, h7⟩ := hok
    exact ⟨_, _, fun w => up_yes r c n p W H T B o w h1 h2 h3 h4 h5 h6 h7, fun w => rup_yes r c n p W H T B o w h1 h2 h3 h4 h5 h6 h7⟩
  · exact ⟨0, 0, fun w => up_no r c n p W H T B o w hok, fun w => rup_no r c n p W H T B o w hok⟩

theorem pair_right (r c : Int) (p : Bool) (W H T B : Int) (o : Bool) (n : Int) : ∃ a b : Int, (∀ w, Calls Try.prog 13 #[cur r c p, .int .i64 n, bnd W H T B o] w fun e w' => e = .returned (cur a b false) ∧ Gr w w') ∧ (∀ w, Calls Try.prog 25 #[cur r c p, .int .i64 n, bnd W H T B o] w fun e w' => e = .returned (cur a b false) ∧ Gr w w') := by
  by_cases hok : okB W H T B
  · obtain ⟨h1, h2, h3, h4, h5, h6, h7⟩ := hok
    exact ⟨_, _, fun w => right_yes r c n p W H T B o w h1 h2 h3 h4 h5 h6 h7, fun w => rright_yes r c n p W H T B o w h1 h2 h3 h4 h5 h6 h7⟩
  · exact ⟨0, 0, fun w => right_no r c n p W H T B o w hok, fun w => rright_no r c n p W H T B o w hok⟩

theorem pair_to (r c : Int) (p : Bool) (W H T B : Int) (o : Bool) (row col : Int) : ∃ a b : Int, (∀ w, Calls Try.prog 20 #[cur r c p, .int .i64 row, .int .i64 col, bnd W H T B o] w fun e w' => e = .returned (cur a b false) ∧ Gr w w') ∧ (∀ w, Calls Try.prog 26 #[cur r c p, .int .i64 row, .int .i64 col, bnd W H T B o] w fun e w' => e = .returned (cur a b false) ∧ Gr w w') := by
  by_cases hok : okB W H T B
  · obtain ⟨h1, h2, h3, h4, h5, h6, h7⟩ := hok
    exact ⟨_, _, fun w => to_yes r c row col p W H T B o w h1 h2 h3 h4 h5 h6 h7, fun w => rto_yes r c row col p W H T B o w h1 h2 h3 h4 h5 h6 h7⟩
  · exact ⟨0, 0, fun w => to_no r c row col p W H T B o w hok, fun w => rto_no r c row col p W H T B o w hok⟩

theorem pair_feed (r c : Int) (p : Bool) (W H T B : Int) (o : Bool) : ∃ a b k : Int, (∀ w, Calls Try.prog 15 #[cur r c p, bnd W H T B o] w fun e w' => e = .returned (.tuple #[cur a b false, .int .i64 k]) ∧ Gr w w') ∧ (∀ w, Calls Try.prog 16 #[cur r c p, bnd W H T B o] w fun e w' => e = .returned (.tuple #[cur a b false, .int .i64 k]) ∧ Gr w w') := by
  by_cases hok : okB W H T B
  · obtain ⟨h1, h2, h3, h4, h5, h6, h7⟩ := hok
    exact ⟨_, _, _, fun w => feed_yes r c p W H T B o w h1 h2 h3 h4 h5 h6 h7, fun w => rfeed_yes r c p W H T B o w h1 h2 h3 h4 h5 h6 h7⟩
  · exact ⟨0, 0, 0, fun w => feed_no r c p W H T B o w hok, fun w => rfeed_no r c p W H T B o w hok⟩

theorem pair_reverse (r c : Int) (p : Bool) (W H T B : Int) (o : Bool) : ∃ a b k : Int, (∀ w, Calls Try.prog 17 #[cur r c p, bnd W H T B o] w fun e w' => e = .returned (.tuple #[cur a b false, .int .i64 k]) ∧ Gr w w') ∧ (∀ w, Calls Try.prog 18 #[cur r c p, bnd W H T B o] w fun e w' => e = .returned (.tuple #[cur a b false, .int .i64 k]) ∧ Gr w w') := by
  by_cases hok : okB W H T B
  · obtain ⟨h1, h2, h3, h4, h5, h6, h7⟩ := hok
    exact ⟨_, _, _, fun w => reverse_yes r c p W H T B o w h1 h2 h3 h4 h5 h6 h7, fun w => rreverse_yes r c p W H T B o w h1 h2 h3 h4 h5 h6 h7⟩
  · exact ⟨0, 0, 0, fun w => reverse_no r c p W H T B o w hok, fun w => rreverse_no r c p W H T B o w hok⟩

theorem pair_check (W H T B : Int) (o : Bool) : ∃ k : Int, (∀ w, Calls Try.prog 11 #[bnd W H T B o] w fun e w' => e = .returned (.int .i64 k) ∧ Gr w w') ∧ (∀ w, Calls Try.prog 22 #[bnd W H T B o] w fun e w' => e = .returned (.int .i64 k) ∧ Gr w w') := by
  by_cases hok : okB W H T B
  · obtain ⟨h1, h2, h3, h4, h5, h6, h7⟩ := hok
    exact ⟨_, fun w => check_yes W H T B o w h1 h2 h3 h4 h5 h6 h7, fun w => rcheck_yes W H T B o w h1 h2 h3 h4 h5 h6 h7⟩
  · exact ⟨2, fun w => check_no W H T B o w hok, fun w => rcheck_no W H T B o w hok⟩
theorem pair_clamp (r c : Int) (p : Bool) (W H T B : Int) (o : Bool) : ∃ (a b : Int) (q : Bool), (∀ w, Calls Try.prog 19 #[cur r c p, bnd W H T B o] w fun e w' => e = .returned (cur a b q) ∧ Gr w w') ∧ (∀ w, Calls Try.prog 23 #[cur r c p, bnd W H T B o] w fun e w' => e = .returned (cur a b q) ∧ Gr w w') := by
  by_cases hok : okB W H T B
  · obtain ⟨h1, h2, h3, h4, h5, h6, h7⟩ := hok
    cases p
    · exact ⟨_, _, _, fun w => clamp_yes0 r c W H T B o w h1 h2 h3 h4 h5 h6 h7, fun w => rclamp_yes0 r c W H T B o w h1 h2 h3 h4 h5 h6 h7⟩
    · by_cases hq : lim c 0 (W - 1) = W - 1
      · exact ⟨_, _, _, fun w => clamp_yes1 r c W H T B o w h1 h2 h3 h4 h5 h6 h7 hq, fun w => rclamp_yes1 r c W H T B o w h1 h2 h3 h4 h5 h6 h7 hq⟩
      · exact ⟨_, _, _, fun w => clamp_yes2 r c W H T B o w h1 h2 h3 h4 h5 h6 h7 hq, fun w => rclamp_yes2 r c W H T B o w h1 h2 h3 h4 h5 h6 h7 hq⟩
  · exact ⟨0, 0, false, fun w => clamp_no r c p W H T B o w hok, fun w => rclamp_no r c p W H T B o w hok⟩

end Go.Proofs.Ytghhanophenhbaa
