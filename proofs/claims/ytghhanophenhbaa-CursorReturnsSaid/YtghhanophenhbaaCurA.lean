/- What the functions of package cursor compute, and their walks. -/
import Derived.Test.YtghhanophenhbaaProg
import Derived.Test.YtghhanophenhbaaMix
namespace Go.Proofs.Ytghhanophenhbaa
set_option linter.unusedSimpArgs false
set_option linter.unusedVariables false
set_option linter.unusedSectionVars false
open Go.RowKit

def lim (n lo hi : Int) : Int := max lo (min n hi)
theorem lim_ge (n lo hi : Int) : lo ≤ lim n lo hi := by unfold lim; omega
theorem lim_le (n lo hi : Int) (h : lo ≤ hi) : lim n lo hi ≤ hi := by unfold lim; omega
def okB (W H T B : Int) : Prop := 1 ≤ W ∧ W ≤ 132 ∧ 1 ≤ H ∧ H ≤ 60 ∧ 0 ≤ T ∧ T < B ∧ B ≤ H
instance (W H T B : Int) : Decidable (okB W H T B) := by unfold okB; infer_instance
abbrev bnd (W H T B : Int) (o : Bool) : Value := .agg #[.int .i64 W, .int .i64 H, .int .i64 T, .int .i64 B, .bool o]
abbrev cur (r c : Int) (p : Bool) : Value := .agg #[.int .i64 r, .int .i64 c, .bool p]

set_option maxHeartbeats 400000 in
theorem limit_any (n lo hi : Int) (w : World) : Calls Try.prog 38 #[.int .i64 n, .int .i64 lo, .int .i64 hi] w fun e w' => e = .returned (.int .i64 (lim n lo hi)) ∧ w = w' := by
  go_enter Try.func38, Try.ntmps38
  go_wp2
  all_goals (go_ret; refine ⟨?_, rfl⟩; unfold lim; simp; try omega)

set_option maxHeartbeats 400000 in
theorem check_yes (W H T B : Int) (o : Bool) (w : World) (h1 : 1 ≤ W) (h2 : W ≤ 132) (h3 : 1 ≤ H) (h4 : H ≤ 60) (h5 : 0 ≤ T) (h6 : T < B) (h7 : B ≤ H) :
    Calls Try.prog 11 #[bnd W H T B o] w fun e w' => e = .returned (.int .i64 0) ∧ Gr w w' := by
  go_enter Try.func11, Try.ntmps11
  go_wp2
  go_ret
  exact ⟨rfl, (Gr.refl _).alloc _⟩
set_option maxHeartbeats 1000000 in
theorem check_no (W H T B : Int) (o : Bool) (w : World) (h : ¬ okB W H T B) :
    Calls Try.prog 11 #[bnd W H T B o] w fun e w' => e = .returned (.int .i64 2) ∧ Gr w w' := by
  unfold okB at h
  go_enter Try.func11, Try.ntmps11
  go_wp2
  all_goals (go_ret; exact ⟨rfl, (Gr.refl _).alloc _⟩)

set_option maxHeartbeats 400000 in
theorem inside_any (r c : Int) (p : Bool) (W H T B : Int) (o : Bool) (w : World) (h1 : 1 ≤ W) (h2 : W ≤ 132) (h3 : 1 ≤ H) (h4 : H ≤ 60) :
    Calls Try.prog 34 #[cur r c p, bnd W H T B o] w fun e w' => e = .returned (cur (lim r 0 (H - 1)) (lim c 0 (W - 1)) p) ∧ Gr w w' := by
  go_enter Try.func34, Try.ntmps34
  go_wp2
  refine wp_region_mix_tail 15 [(true, 0), (true, 1), (true, 2), (true, 3), (true, 4), (true, 6), (true, 7), (true, 8), (true, 9), (true, 10), (true, 12), (true, 13), (false, 5), (false, 11), (true, 14)] (by kernel_rfl) (by kernel_rfl) (by decide) ?_
  repeat (first
    | (refine mix_q rfl (by rfl) rfl (fun _ _ _ _ h => h) (fun K hK => ?_); go_big_quiet_op; refine hK _ ?_; clear hK K)
    | (refine mix_skip rfl (by rfl) (fun _ _ _ h => h) ?_; simp only [Act.put, List.setIfInBounds_toArray, List.set_cons_zero, List.set_cons_succ])
    | (refine mix_run rfl (by rfl) (fun K hK => ?_)
       go_wp2_with (go_at_call 38; refine (limit_any _ _ _ _).mono ?_; rintro e w' ⟨rfl, rfl⟩)
       refine ⟨by (repeat (first | with_reducible exact Gr.refl _ | with_reducible apply Gr.undrew | with_reducible apply Gr.undrewN | with_reducible apply Gr.drew | with_reducible apply Gr.drewN | with_reducible apply Gr.grow | with_reducible apply Gr.alloc | (with_reducible refine Gr.setCell ?_ (by first | (simp; done) | (simp; omega)) _) | with_reducible assumption | (refine Gr.trans ?_ (by with_reducible assumption)))), ?_⟩)
    | (refine mix_skip_run rfl (by rfl) (by (repeat (first | with_reducible exact Gr.refl _ | with_reducible apply Gr.undrew | with_reducible apply Gr.undrewN | with_reducible apply Gr.drew | with_reducible apply Gr.drewN | with_reducible apply Gr.grow | with_reducible apply Gr.alloc | (with_reducible refine Gr.setCell ?_ (by first | (simp; done) | (simp; omega)) _) | with_reducible assumption | (refine Gr.trans ?_ (by with_reducible assumption))))) ?_; simp only [Act.put, List.setIfInBounds_toArray, List.set_cons_zero, List.set_cons_succ]))
  refine wpMix_nil ?_
  simp only [List.drop_succ_cons, List.drop_zero]
  go_wp2
  refine bodyPost_ret (v := cur (lim r 0 (H - 1)) (lim c 0 (W - 1)) p) (by simp [results, Try.results34, go_sem]) rfl ⟨rfl, ?_⟩
  (repeat (first | with_reducible exact Gr.refl _ | with_reducible apply Gr.undrew | with_reducible apply Gr.undrewN | with_reducible apply Gr.drew | with_reducible apply Gr.drewN | with_reducible apply Gr.grow | with_reducible apply Gr.alloc | (with_reducible refine Gr.setCell ?_ (by first | (simp; done) | (simp; omega)) _) | with_reducible assumption | (refine Gr.trans ?_ (by with_reducible assumption))))

set_option maxHeartbeats 400000 in
theorem region_any (r : Int) (W H T B : Int) (o : Bool) (w : World) :
    Calls Try.prog 30 #[.int .i64 r, bnd W H T B o] w fun e w' => e = .returned (.bool (decide (T ≤ r) && decide (r < B))) ∧ Gr w w' := by
  by_cases h1 : T ≤ r
  · by_cases h2 : r < B
    · go_enter Try.func30, Try.ntmps30
      go_wp2
      go_ret
      exact ⟨by simp [h1, h2], (Gr.refl _).alloc _⟩
    · go_enter Try.func30, Try.ntmps30
      go_wp2
      go_ret
      exact ⟨by simp [h1, h2], (Gr.refl _).alloc _⟩
  · go_enter Try.func30, Try.ntmps30
    go_wp2
    go_ret
    exact ⟨by simp [show ¬ T ≤ r by omega], (Gr.refl _).alloc _⟩

end Go.Proofs.Ytghhanophenhbaa
