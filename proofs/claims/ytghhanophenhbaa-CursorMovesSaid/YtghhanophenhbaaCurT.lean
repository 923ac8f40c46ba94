/- The reference of chapter 10: To. -/
import Derived.Test.YtghhanophenhbaaCurR
namespace Go.Proofs.Ytghhanophenhbaa
set_option linter.unusedSimpArgs false
set_option linter.unusedVariables false
set_option linter.unusedSectionVars false
open Go.RowKit

set_option maxHeartbeats 1000000 in
theorem rto_false (r c row col : Int) (p : Bool) (W H T B : Int) (w : World) (h1 : 1 ≤ W) (h2 : W ≤ 132) (h3 : 1 ≤ H) (h4 : H ≤ 60) (h5 : 0 ≤ T) (h6 : T < B) (h7 : B ≤ H) :
    Calls Try.prog 26 #[cur r c p, .int .i64 row, .int .i64 col, bnd W H T B false] w fun e w' => e = .returned (cur (lim (lim row 1 1000 - 1) 0 (H - 1)) (lim (lim col 1 1000 - 1) 0 (W - 1)) false) ∧ Gr w w' := by
  have b1 := lim_ge row 1 1000
  have b2 := lim_le row 1 1000 (by omega)
  have b3 := lim_ge col 1 1000
  have b4 := lim_le col 1 1000 (by omega)
  go_enter Try.func26, Try.ntmps26
  go_wp2_with (first | (go_at_call 22; refine (rcheck_yes _ _ _ _ _ _ h1 h2 h3 h4 h5 h6 h7).mono ?_; rintro e w1 ⟨rfl, hg⟩; obtain ⟨cN, fN, hc, hf, hs⟩ := hg.facts; (try simp only [World.size_alloc, World.size_drew] at hc hf hs)) | (go_at_call 37; refine (rlimit_any _ _ _ _ (by first | decide | omega)).mono ?_; rintro e w' ⟨rfl, rfl⟩))
  refine wp_region_mix [(true, 0), (true, 1), (true, 2), (true, 3), (true, 4), (true, 5), (true, 6), (true, 7), (true, 8), (true, 9), (true, 10), (false, 11), (false, 12)] (by kernel_rfl) (by kernel_rfl) ?_
  repeat (refine mix_q rfl (by rfl) rfl (fun _ _ _ _ h => h) (fun K hK => ?_); go_big_quiet_op; refine hK _ ?_; clear hK K)
  refine mix_pure (v := .int .i64 (lim (lim row 1 1000 - 1) 0 (H - 1))) (f := 37) (args := #[.int .i64 (lim row 1 1000 - 1), .int .i64 0, .int .i64 (H - 1)]) rfl (by rfl) (fun _ _ _ h => h) (fun _ => by go_simp) (fun x => rlimit_any _ _ _ _ (by omega)) ?_
  simp only [Act.put, List.setIfInBounds_toArray, List.set_cons_zero, List.set_cons_succ]
  repeat (refine mix_q rfl (by rfl) rfl (fun _ _ _ _ h => h) (fun K hK => ?_); go_big_quiet_op; refine hK _ ?_; clear hK K)
  refine mix_pure (v := .int .i64 (lim (lim col 1 1000 - 1) 0 (W - 1))) (f := 37) (args := #[.int .i64 (lim col 1 1000 - 1), .int .i64 0, .int .i64 (W - 1)]) rfl (by rfl) (fun _ _ _ h => h) (fun _ => by go_simp) (fun x => rlimit_any _ _ _ _ (by omega)) ?_
  simp only [Act.put, List.setIfInBounds_toArray, List.set_cons_zero, List.set_cons_succ]
  repeat (first
    | (refine mix_q rfl (by rfl) rfl (fun _ _ _ _ h => h) (fun K hK => ?_); go_big_quiet_op; refine hK _ ?_; clear hK K)
    | (refine mix_run rfl (by rfl) (fun K hK => ?_)
       go_wp2_with fail
       refine ⟨by (repeat (first | with_reducible exact Gr.refl _ | with_reducible apply Gr.undrew | with_reducible apply Gr.undrewN | with_reducible apply Gr.drew | with_reducible apply Gr.drewN | with_reducible apply Gr.grow | with_reducible apply Gr.alloc | (with_reducible refine Gr.setCell ?_ (by first | (simp; done) | (simp; omega)) _) | with_reducible assumption | (refine Gr.trans ?_ (by with_reducible assumption)))), ?_⟩))
  refine wpMix_nil ?_
  go_wp2_with (first | (go_at_call 37; refine (rlimit_any _ _ _ _ (by first | decide | omega)).mono ?_; rintro e w' ⟨rfl, rfl⟩))
  refine bodyPost_ret (v := cur (lim (lim row 1 1000 - 1) 0 (H - 1)) (lim (lim col 1 1000 - 1) 0 (W - 1)) false) (by simp [*, results, Try.results26, go_sem, ↓IntWalk.iteOmega]) rfl ⟨rfl, ?_⟩
  (repeat (first | with_reducible exact Gr.refl _ | with_reducible apply Gr.undrew | with_reducible apply Gr.undrewN | with_reducible apply Gr.drew | with_reducible apply Gr.drewN | with_reducible apply Gr.grow | with_reducible apply Gr.alloc | (with_reducible refine Gr.setCell ?_ (by first | (simp; done) | (simp; omega)) _) | with_reducible assumption | (refine Gr.trans ?_ (by with_reducible assumption))))

set_option maxHeartbeats 1000000 in
theorem rto_true (r c row col : Int) (p : Bool) (W H T B : Int) (w : World) (h1 : 1 ≤ W) (h2 : W ≤ 132) (h3 : 1 ≤ H) (h4 : H ≤ 60) (h5 : 0 ≤ T) (h6 : T < B) (h7 : B ≤ H) :
    Calls Try.prog 26 #[cur r c p, .int .i64 row, .int .i64 col, bnd W H T B true] w fun e w' => e = .returned (cur (lim (T + (lim row 1 1000 - 1)) T (B - 1)) (lim (lim col 1 1000 - 1) 0 (W - 1)) false) ∧ Gr w w' := by
  have b1 := lim_ge row 1 1000
  have b2 := lim_le row 1 1000 (by omega)
  have b3 := lim_ge col 1 1000
  have b4 := lim_le col 1 1000 (by omega)
  go_enter Try.func26, Try.ntmps26
  go_wp2_with (first | (go_at_call 22; refine (rcheck_yes _ _ _ _ _ _ h1 h2 h3 h4 h5 h6 h7).mono ?_; rintro e w1 ⟨rfl, hg⟩; obtain ⟨cN, fN, hc, hf, hs⟩ := hg.facts; (try simp only [World.size_alloc, World.size_drew] at hc hf hs)) | (go_at_call 37; refine (rlimit_any _ _ _ _ (by first | decide | omega)).mono ?_; rintro e w' ⟨rfl, rfl⟩))
  refine wp_region_mix [(true, 0), (true, 1), (true, 2), (true, 3), (true, 4), (true, 5), (true, 6), (true, 7), (true, 8), (true, 9), (true, 10), (false, 11), (false, 12)] (by kernel_rfl) (by kernel_rfl) ?_
  repeat (refine mix_q rfl (by rfl) rfl (fun _ _ _ _ h => h) (fun K hK => ?_); go_big_quiet_op; refine hK _ ?_; clear hK K)
  refine mix_pure (v := .int .i64 (lim (lim row 1 1000 - 1) 0 (H - 1))) (f := 37) (args := #[.int .i64 (lim row 1 1000 - 1), .int .i64 0, .int .i64 (H - 1)]) rfl (by rfl) (fun _ _ _ h => h) (fun _ => by go_simp) (fun x => rlimit_any _ _ _ _ (by omega)) ?_
  simp only [Act.put, List.setIfInBounds_toArray, List.set_cons_zero, List.set_cons_succ]
  repeat (refine mix_q rfl (by rfl) rfl (fun _ _ _ _ h => h) (fun K hK => ?_); go_big_quiet_op; refine hK _ ?_; clear hK K)
  refine mix_pure (v := .int .i64 (lim (lim col 1 1000 - 1) 0 (W - 1))) (f := 37) (args := #[.int .i64 (lim col 1 1000 - 1), .int .i64 0, .int .i64 (W - 1)]) rfl (by rfl) (fun _ _ _ h => h) (fun _ => by go_simp) (fun x => rlimit_any _ _ _ _ (by omega)) ?_
  simp only [Act.put, List.setIfInBounds_toArray, List.set_cons_zero, List.set_cons_succ]
  repeat (first
    | (refine mix_q rfl (by rfl) rfl (fun _ _ _ _ h => h) (fun K hK => ?_); go_big_quiet_op; refine hK _ ?_; clear hK K)
    | (refine mix_run rfl (by rfl) (fun K hK => ?_)
       go_wp2_with fail
       refine ⟨by (repeat (first | with_reducible exact Gr.refl _ | with_reducible apply Gr.undrew | with_reducible apply Gr.undrewN | with_reducible apply Gr.drew | with_reducible apply Gr.drewN | with_reducible apply Gr.grow | with_reducible apply Gr.alloc | (with_reducible refine Gr.setCell ?_ (by first | (simp; done) | (simp; omega)) _) | with_reducible assumption | (refine Gr.trans ?_ (by with_reducible assumption)))), ?_⟩))
  refine wpMix_nil ?_
  go_wp2_with (first | (go_at_call 37; refine (rlimit_any _ _ _ _ (by first | decide | omega)).mono ?_; rintro e w' ⟨rfl, rfl⟩))
  refine bodyPost_ret (v := cur (lim (T + (lim row 1 1000 - 1)) T (B - 1)) (lim (lim col 1 1000 - 1) 0 (W - 1)) false) (by simp [*, results, Try.results26, go_sem, ↓IntWalk.iteOmega]) rfl ⟨rfl, ?_⟩
  (repeat (first | with_reducible exact Gr.refl _ | with_reducible apply Gr.undrew | with_reducible apply Gr.undrewN | with_reducible apply Gr.drew | with_reducible apply Gr.drewN | with_reducible apply Gr.grow | with_reducible apply Gr.alloc | (with_reducible refine Gr.setCell ?_ (by first | (simp; done) | (simp; omega)) _) | with_reducible assumption | (refine Gr.trans ?_ (by with_reducible assumption))))

theorem rto_yes (r c row col : Int) (p : Bool) (W H T B : Int) (o : Bool) (w : World) (h1 : 1 ≤ W) (h2 : W ≤ 132) (h3 : 1 ≤ H) (h4 : H ≤ 60) (h5 : 0 ≤ T) (h6 : T < B) (h7 : B ≤ H) :
    Calls Try.prog 26 #[cur r c p, .int .i64 row, .int .i64 col, bnd W H T B o] w fun e w' => e = .returned (cur (toRow o row H T B) (toCol col W) false) ∧ Gr w w' := by
  unfold toRow toCol
  cases o
  · exact rto_false r c row col p W H T B w h1 h2 h3 h4 h5 h6 h7
  · exact rto_true r c row col p W H T B w h1 h2 h3 h4 h5 h6 h7

end Go.Proofs.Ytghhanophenhbaa
