/- The walk of the law CursorReturns. -/
import Derived.Test.YtghhanophenhbaaCurF
import Derived.Test.YtghhanophenhbaaCurR
import Derived.Test.YtghhanophenhbaaCurS
import Derived.Test.YtghhanophenhbaaCurAw
namespace Go.Proofs.Ytghhanophenhbaa
set_option linter.unusedSimpArgs false
set_option linter.unusedVariables false
set_option linter.unusedSectionVars false
open Go.RowKit
set_option linter.unusedVariables false

theorem linside_b (r c : Int) (p : Bool) (W H T B : Int) (o : Bool) (w : World) :
    Calls Try.prog 21 #[cur r c p, bnd W H T B o] w fun e w' => e = .returned (.bool (decide (0 ≤ r ∧ r < H ∧ 0 ≤ c ∧ c < W ∧ p = false))) ∧ Gr w w' := by
  by_cases g1 : 0 ≤ r
  · by_cases g2 : r < H
    · by_cases g3 : 0 ≤ c
      · by_cases g4 : c < W
        · cases p
          all_goals
            go_enter Try.func21, Try.ntmps21
            go_wp2
            go_ret
            refine ⟨by simp [g1, g2, g3, g4], ?_⟩
            (repeat (first | with_reducible exact Gr.refl _ | with_reducible apply Gr.undrew | with_reducible apply Gr.undrewN | with_reducible apply Gr.drew | with_reducible apply Gr.drewN | with_reducible apply Gr.grow | with_reducible apply Gr.alloc | (with_reducible refine Gr.setCell ?_ (by first | (simp; done) | (simp; omega)) _) | with_reducible assumption | (refine Gr.trans ?_ (by with_reducible assumption))))
        · go_enter Try.func21, Try.ntmps21
          go_wp2
          go_ret
          refine ⟨by simp; omega, ?_⟩
          (repeat (first | with_reducible exact Gr.refl _ | with_reducible apply Gr.undrew | with_reducible apply Gr.undrewN | with_reducible apply Gr.drew | with_reducible apply Gr.drewN | with_reducible apply Gr.grow | with_reducible apply Gr.alloc | (with_reducible refine Gr.setCell ?_ (by first | (simp; done) | (simp; omega)) _) | with_reducible assumption | (refine Gr.trans ?_ (by with_reducible assumption))))
      · go_enter Try.func21, Try.ntmps21
        go_wp2
        go_ret
        refine ⟨by simp; omega, ?_⟩
        (repeat (first | with_reducible exact Gr.refl _ | with_reducible apply Gr.undrew | with_reducible apply Gr.undrewN | with_reducible apply Gr.drew | with_reducible apply Gr.drewN | with_reducible apply Gr.grow | with_reducible apply Gr.alloc | (with_reducible refine Gr.setCell ?_ (by first | (simp; done) | (simp; omega)) _) | with_reducible assumption | (refine Gr.trans ?_ (by with_reducible assumption))))
    · go_enter Try.func21, Try.ntmps21
      go_wp2
      go_ret
      refine ⟨by simp; omega, ?_⟩
      (repeat (first | with_reducible exact Gr.refl _ | with_reducible apply Gr.undrew | with_reducible apply Gr.undrewN | with_reducible apply Gr.drew | with_reducible apply Gr.drewN | with_reducible apply Gr.grow | with_reducible apply Gr.alloc | (with_reducible refine Gr.setCell ?_ (by first | (simp; done) | (simp; omega)) _) | with_reducible assumption | (refine Gr.trans ?_ (by with_reducible assumption))))
  · go_enter Try.func21, Try.ntmps21
    go_wp2
    go_ret
    refine ⟨by simp; omega, ?_⟩
    (repeat (first | with_reducible exact Gr.refl _ | with_reducible apply Gr.undrew | with_reducible apply Gr.undrewN | with_reducible apply Gr.drew | with_reducible apply Gr.drewN | with_reducible apply Gr.grow | with_reducible apply Gr.alloc | (with_reducible refine Gr.setCell ?_ (by first | (simp; done) | (simp; omega)) _) | with_reducible assumption | (refine Gr.trans ?_ (by with_reducible assumption))))

/-- The facts of plain arithmetic and the contracts at a cursor that is inside. -/
theorem ret_facts (r c k : Int) (W H T B : Int) (o : Bool) (h1 : 1 ≤ W) (h2 : W ≤ 132) (h3 : 1 ≤ H) (h4 : H ≤ 60) (h5 : 0 ≤ T) (h6 : T < B) (h7 : B ≤ H) (g1 : 0 ≤ r) (g2 : r < H) (g3 : 0 ≤ c) (g4 : c < W) (k0 : 0 ≤ k) (k7 : k ≤ 7) :
    ∃ x n u1 v1 : Int, (∀ w, Calls Try.prog 15 #[cur r c false, bnd W H T B o] w fun e w' => e = .returned (.tuple #[cur x c false, .int .i64 n]) ∧ Gr w w') ∧ (n = 0 → r < H - 1 → r + 1 ≠ T → x = r + 1) ∧ (n = 0 ∨ n = 1) ∧
      (n = 0 → r < H - 1 → r + 1 ≠ T → (∀ w, Calls Try.prog 17 #[cur x c false, bnd W H T B o] w fun e w' => e = .returned (.tuple #[cur r c false, .int .i64 0]) ∧ Gr w w')) ∧
      (∀ w, Calls Try.prog 14 #[cur r c false, .int .i64 (-k), bnd W H T B o] w fun e w' => e = .returned (cur u1 c false) ∧ Gr w w') ∧ (T ≤ r → r + k < B → (∀ w, Calls Try.prog 14 #[cur u1 c false, .int .i64 k, bnd W H T B o] w fun e w' => e = .returned (cur r c false) ∧ Gr w w')) ∧
      (∀ w, Calls Try.prog 13 #[cur r c false, .int .i64 k, bnd W H T B o] w fun e w' => e = .returned (cur r v1 false) ∧ Gr w w') ∧ (c + k < W → (∀ w, Calls Try.prog 13 #[cur r v1 false, .int .i64 (-k), bnd W H T B o] w fun e w' => e = .returned (cur r c false) ∧ Gr w w')) := by
  have e1 : lim r 0 (H - 1) = r := by unfold lim; omega
  have e2 : lim c 0 (W - 1) = c := by unfold lim; omega
  have e3 : lim k (-1000) 1000 = k := by unfold lim; omega
  have e4 : lim (-k) (-1000) 1000 = -k := by unfold lim; omega
  refine ⟨upRow r (-1) H T B, if r = B - 1 then 1 else 0, upRow r (-k) H T B, lim (c + k) 0 (W - 1), fun w => (feed_yes r c false W H T B o w h1 h2 h3 h4 h5 h6 h7).mono fun e w' h => ⟨h.1.trans (by rw [e1, e2]), h.2⟩, ?_, ?_, ?_, ?_, ?_, ?_, ?_⟩
  · intro hn hr ht
    have hq : ¬ r = B - 1 := by intro hq; rw [if_pos hq] at hn; omega
    rw [feedRow_eq r H T B h5 h6 h7 g1 (by omega) hq, if_pos hr]
  · split
    · exact .inr rfl
    · exact .inl rfl
  · intro hn hr ht w
    have hq : ¬ r = B - 1 := by intro hq; rw [if_pos hq] at hn; omega
    have ex : upRow r (-1) H T B = r + 1 := by rw [feedRow_eq r H T B h5 h6 h7 g1 (by omega) hq, if_pos hr]
    have e5 : lim (r + 1) 0 (H - 1) = r + 1 := by unfold lim; omega
    rw [ex]
    refine (reverse_yes (r + 1) c false W H T B o w h1 h2 h3 h4 h5 h6 h7).mono fun e w' h => ⟨h.1.trans ?_, h.2⟩
    rw [e5, e2, revRow_eq (r + 1) H T B h5 h6 h7 (by omega) (by omega) ht, if_neg ht, if_pos (by omega)]
    rw [show r + 1 - 1 = r by omega]
  · exact fun w => (up_yes r c (-k) false W H T B o w h1 h2 h3 h4 h5 h6 h7).mono fun e w' h => ⟨h.1.trans (by rw [e1, e2]), h.2⟩
  · intro hT hB w
    have e6 : upRow r (-k) H T B = r + k := by unfold upRow; rw [if_pos ⟨hT, by omega⟩, e4]; unfold lim; omega
    have e5 : lim (r + k) 0 (H - 1) = r + k := by unfold lim; omega
    rw [e6]
    refine (up_yes (r + k) c k false W H T B o w h1 h2 h3 h4 h5 h6 h7).mono fun e w' h => ⟨h.1.trans ?_, h.2⟩
    have e7 : upRow (r + k) k H T B = r := by unfold upRow; rw [if_pos ⟨by omega, hB⟩, e3]; unfold lim; omega
    rw [e5, e2, e7]
  · exact fun w => (right_yes r c k false W H T B o w h1 h2 h3 h4 h5 h6 h7).mono fun e w' h => ⟨h.1.trans (by rw [e1, e2, e3]), h.2⟩
  · intro hW w
    have e6 : lim (c + k) 0 (W - 1) = c + k := by unfold lim; omega
    rw [e6]
    refine (right_yes r (c + k) (-k) false W H T B o w h1 h2 h3 h4 h5 h6 h7).mono fun e w' h => ⟨h.1.trans ?_, h.2⟩
    rw [e1, e6, e4]
    rw [show c + k + -k = c by omega, e2]

end Go.Proofs.Ytghhanophenhbaa
