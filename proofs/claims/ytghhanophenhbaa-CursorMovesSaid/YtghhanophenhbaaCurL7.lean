/- The walk of the law CursorMoves. -/
import Derived.Test.YtghhanophenhbaaCurP
import Derived.Test.YtghhanophenhbaaCurAw
namespace Go.Proofs.Ytghhanophenhbaa
set_option linter.unusedSimpArgs false
set_option linter.unusedVariables false
set_option linter.unusedSectionVars false
open Go.RowKit
set_option linter.unusedVariables false

set_option maxHeartbeats 4000000 in
theorem walk_CursorMoves (r c : Int) (p : Bool) (W H T B : Int) (o : Bool) (n : Int) (wn : (Lit.int .i64 n).wf = true) (m : Int) (wm : (Lit.int .i64 m).wf = true) (w : World) :
    Calls Try.prog 9 #[cur r c p, bnd W H T B o, .int .i64 n, .int .i64 m] w fun e w' => e = .returned (.bool true) ∧ Gr w w' := by
  clear wn wm
  obtain ⟨k, A, A'⟩ := pair_check W H T B o
  obtain ⟨a1, b1, q1, B1, B1'⟩ := pair_clamp r c p W H T B o
  obtain ⟨a2, b2, B2, B2'⟩ := pair_up r c p W H T B o n
  obtain ⟨a3, b3, B3, B3'⟩ := pair_right r c p W H T B o n
  obtain ⟨a4, b4, B4, B4'⟩ := pair_to r c p W H T B o n m
  have A := Lib.hid A; have A' := Lib.hid A'; have B1 := Lib.hid B1; have B1' := Lib.hid B1'; have B2 := Lib.hid B2; have B2' := Lib.hid B2'; have B3 := Lib.hid B3; have B3' := Lib.hid B3'; have B4 := Lib.hid B4; have B4' := Lib.hid B4'
  go_enter Try.func9, Try.ntmps9
  go_wp2_with fail
  refine wp_region_grows (by kernel_rfl) (by kernel_rfl) ?_
  repeat (first
    | go_big_quiet_skip
    | (go_big_quiet_want; go_big_quiet_op; first | go_big_quiet_on | (apply Exists.intro; refine ⟨fun _ => ?_, ?_⟩; (· (first | (with_reducible exact Calls.gr_of (A.out _)) | (with_reducible exact Calls.gr_of (A'.out _)) | (with_reducible exact Calls.gr_of (B1.out _)) | (with_reducible exact Calls.gr_of (B1'.out _)) | (with_reducible exact Calls.gr_of (B2.out _)) | (with_reducible exact Calls.gr_of (B2'.out _)) | (with_reducible exact Calls.gr_of (B3.out _)) | (with_reducible exact Calls.gr_of (B3'.out _)) | (with_reducible exact Calls.gr_of (B4.out _)) | (with_reducible exact Calls.gr_of (B4'.out _)) | (with_reducible exact Calls.gr_of (awake_any _)))); go_big_quiet_on)))
  refine wpQuiet_nil ?_
  rintro w2 ⟨x, rfl⟩
  go_wp2
  go_ret
  refine ⟨rfl, ?_⟩
  (repeat (first | with_reducible exact Gr.refl _ | with_reducible apply Gr.undrew | with_reducible apply Gr.undrewN | with_reducible apply Gr.drew | with_reducible apply Gr.drewN | with_reducible apply Gr.grow | with_reducible apply Gr.alloc | (with_reducible refine Gr.setCell ?_ (by first | (simp; done) | (simp; omega)) _) | with_reducible assumption | (refine Gr.trans ?_ (by with_reducible assumption))))

end Go.Proofs.Ytghhanophenhbaa
