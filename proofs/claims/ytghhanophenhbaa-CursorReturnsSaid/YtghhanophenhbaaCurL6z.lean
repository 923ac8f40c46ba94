/- The walk of the law CursorReturns. -/
import Derived.Test.YtghhanophenhbaaCurL6a
import Derived.Test.YtghhanophenhbaaCurL6b
import Derived.Test.YtghhanophenhbaaCurL6c
import Derived.Test.YtghhanophenhbaaCurL6d
namespace Go.Proofs.Ytghhanophenhbaa
set_option linter.unusedSimpArgs false
set_option linter.unusedVariables false
set_option linter.unusedSectionVars false
open Go.RowKit
set_option linter.unusedVariables false

theorem walk_CursorReturns (r c : Int) (p : Bool) (W H T B : Int) (o : Bool) (m : Int) (wm : (Lit.int .u8 m).wf = true) (w : World) :
    Calls Try.prog 8 #[cur r c p, bnd W H T B o, .int .u8 m] w fun e w' => e = .returned (.bool true) ∧ Gr w w' := by
  obtain ⟨m0, m1⟩ := bounds_u8 wm
  clear wm
  by_cases hok : okB W H T B
  · obtain ⟨h1, h2, h3, h4, h5, h6, h7⟩ := hok
    by_cases hin : 0 ≤ r ∧ r < H ∧ 0 ≤ c ∧ c < W ∧ p = false
    · obtain ⟨g1, g2, g3, g4, rfl⟩ := hin
      obtain ⟨x, n, u1, v1, A1, hx, hn, A2, B1, B2, C1, C2⟩ := ret_facts r c (m % 8) W H T B o h1 h2 h3 h4 h5 h6 h7 g1 g2 g3 g4 (by omega) (by omega)
      rcases hn with hn | hn
      · by_cases hf : r < H - 1
        · by_cases ht : r + 1 = T
          · by_cases hs1 : T ≤ r
            · by_cases hs2 : r + m % 8 < B
              · by_cases hr : c + m % 8 < W
                · exact ret_c3x r c m x n u1 v1 W H T B o w m0 m1 h1 h2 h3 h4 h5 h6 h7 g1 g2 g3 g4 hn hf ht hs1 hs2 hr A1 B1 C1 (B2 hs1 hs2) (C2 hr)
                · exact ret_c3y r c m x n u1 v1 W H T B o w m0 m1 h1 h2 h3 h4 h5 h6 h7 g1 g2 g3 g4 hn hf ht hs1 hs2 hr A1 B1 C1 (B2 hs1 hs2)
              · by_cases hr : c + m % 8 < W
                · exact ret_c2x r c m x n u1 v1 W H T B o w m0 m1 h1 h2 h3 h4 h5 h6 h7 g1 g2 g3 g4 hn hf ht hs1 hs2 hr A1 B1 C1 (C2 hr)
                · exact ret_c2y r c m x n u1 v1 W H T B o w m0 m1 h1 h2 h3 h4 h5 h6 h7 g1 g2 g3 g4 hn hf ht hs1 hs2 hr A1 B1 C1
            · by_cases hr : c + m % 8 < W
              · exact ret_c1x r c m x n u1 v1 W H T B o w m0 m1 h1 h2 h3 h4 h5 h6 h7 g1 g2 g3 g4 hn hf ht hs1 hr A1 B1 C1 (C2 hr)
              · exact ret_c1y r c m x n u1 v1 W H T B o w m0 m1 h1 h2 h3 h4 h5 h6 h7 g1 g2 g3 g4 hn hf ht hs1 hr A1 B1 C1
          · have hx' := hx hn hf ht
            have A2' := A2 hn hf ht
            by_cases hs1 : T ≤ r
            · by_cases hs2 : r + m % 8 < B
              · by_cases hr : c + m % 8 < W
                · exact ret_d3x r c m x n u1 v1 W H T B o w m0 m1 h1 h2 h3 h4 h5 h6 h7 g1 g2 g3 g4 hn hf ht hs1 hs2 hr A1 hx' A2' B1 C1 (B2 hs1 hs2) (C2 hr)
                · exact ret_d3y r c m x n u1 v1 W H T B o w m0 m1 h1 h2 h3 h4 h5 h6 h7 g1 g2 g3 g4 hn hf ht hs1 hs2 hr A1 hx' A2' B1 C1 (B2 hs1 hs2)
              · by_cases hr : c + m % 8 < W
                · exact ret_d2x r c m x n u1 v1 W H T B o w m0 m1 h1 h2 h3 h4 h5 h6 h7 g1 g2 g3 g4 hn hf ht hs1 hs2 hr A1 hx' A2' B1 C1 (C2 hr)
                · exact ret_d2y r c m x n u1 v1 W H T B o w m0 m1 h1 h2 h3 h4 h5 h6 h7 g1 g2 g3 g4 hn hf ht hs1 hs2 hr A1 hx' A2' B1 C1
            · by_cases hr : c + m % 8 < W
              · exact ret_d1x r c m x n u1 v1 W H T B o w m0 m1 h1 h2 h3 h4 h5 h6 h7 g1 g2 g3 g4 hn hf ht hs1 hr A1 hx' A2' B1 C1 (C2 hr)
              · exact ret_d1y r c m x n u1 v1 W H T B o w m0 m1 h1 h2 h3 h4 h5 h6 h7 g1 g2 g3 g4 hn hf ht hs1 hr A1 hx' A2' B1 C1
        · by_cases hs1 : T ≤ r
          · by_cases hs2 : r + m % 8 < B
            · by_cases hr : c + m % 8 < W
              · exact ret_b3x r c m x n u1 v1 W H T B o w m0 m1 h1 h2 h3 h4 h5 h6 h7 g1 g2 g3 g4 hn hf hs1 hs2 hr A1 B1 C1 (B2 hs1 hs2) (C2 hr)
              · exact ret_b3y r c m x n u1 v1 W H T B o w m0 m1 h1 h2 h3 h4 h5 h6 h7 g1 g2 g3 g4 hn hf hs1 hs2 hr A1 B1 C1 (B2 hs1 hs2)
            · by_cases hr : c + m % 8 < W
              · exact ret_b2x r c m x n u1 v1 W H T B o w m0 m1 h1 h2 h3 h4 h5 h6 h7 g1 g2 g3 g4 hn hf hs1 hs2 hr A1 B1 C1 (C2 hr)
              · exact ret_b2y r c m x n u1 v1 W H T B o w m0 m1 h1 h2 h3 h4 h5 h6 h7 g1 g2 g3 g4 hn hf hs1 hs2 hr A1 B1 C1
          · omega
      · by_cases hs1 : T ≤ r
        · by_cases hs2 : r + m % 8 < B
          · by_cases hr : c + m % 8 < W
            · exact ret_a3x r c m x n u1 v1 W H T B o w m0 m1 h1 h2 h3 h4 h5 h6 h7 g1 g2 g3 g4 hn hs1 hs2 hr A1 B1 C1 (B2 hs1 hs2) (C2 hr)
            · exact ret_a3y r c m x n u1 v1 W H T B o w m0 m1 h1 h2 h3 h4 h5 h6 h7 g1 g2 g3 g4 hn hs1 hs2 hr A1 B1 C1 (B2 hs1 hs2)
          · by_cases hr : c + m % 8 < W
            · exact ret_a2x r c m x n u1 v1 W H T B o w m0 m1 h1 h2 h3 h4 h5 h6 h7 g1 g2 g3 g4 hn hs1 hs2 hr A1 B1 C1 (C2 hr)
            · exact ret_a2y r c m x n u1 v1 W H T B o w m0 m1 h1 h2 h3 h4 h5 h6 h7 g1 g2 g3 g4 hn hs1 hs2 hr A1 B1 C1
        · by_cases hr : c + m % 8 < W
          · exact ret_a1x r c m x n u1 v1 W H T B o w m0 m1 h1 h2 h3 h4 h5 h6 h7 g1 g2 g3 g4 hn hs1 hr A1 B1 C1 (C2 hr)
          · exact ret_a1y r c m x n u1 v1 W H T B o w m0 m1 h1 h2 h3 h4 h5 h6 h7 g1 g2 g3 g4 hn hs1 hr A1 B1 C1
    · have lin : decide (0 ≤ r ∧ r < H ∧ 0 ≤ c ∧ c < W ∧ p = false) = false := by simpa using hin
      clear hin
      go_enter Try.func8, Try.ntmps8
      go_wp2_with (first | (go_at_call 11; refine (check_yes _ _ _ _ _ _ h1 h2 h3 h4 h5 h6 h7).mono ?_; rintro e w1 ⟨rfl, hg⟩; obtain ⟨cN, fN, hc, hf, hs⟩ := hg.facts; (try simp only [World.size_alloc, World.size_drew] at hc hf hs)) | (go_at_call 21; refine (linside_b _ _ _ _ _ _ _ _ _).mono ?_; rintro e w8 ⟨rfl, hg⟩; obtain ⟨cN, fN, hc, hf, hs⟩ := hg.facts; (try simp only [World.size_alloc, World.size_drew] at hc hf hs)) | (go_at_call 12; refine (awake_any _).mono ?_; rintro e w9 ⟨rfl, hg⟩; obtain ⟨cN, fN, hc, hf, hs⟩ := hg.facts; (try simp only [World.size_alloc, World.size_drew] at hc hf hs)))
      go_ret
      refine ⟨rfl, ?_⟩
      (repeat (first | with_reducible exact Gr.refl _ | with_reducible apply Gr.undrew | with_reducible apply Gr.undrewN | with_reducible apply Gr.drew | with_reducible apply Gr.drewN | with_reducible apply Gr.grow | with_reducible apply Gr.alloc | (with_reducible refine Gr.setCell ?_ (by first | (simp; done) | (simp; omega)) _) | with_reducible assumption | (refine Gr.trans ?_ (by with_reducible assumption))))
  · go_enter Try.func8, Try.ntmps8
    go_wp2_with (first | (go_at_call 11; refine (check_no _ _ _ _ _ _ hok).mono ?_; rintro e w1 ⟨rfl, hg⟩; obtain ⟨cN, fN, hc, hf, hs⟩ := hg.facts; (try simp only [World.size_alloc, World.size_drew] at hc hf hs)) | (go_at_call 12; refine (awake_any _).mono ?_; rintro e w9 ⟨rfl, hg⟩; obtain ⟨cN, fN, hc, hf, hs⟩ := hg.facts; (try simp only [World.size_alloc, World.size_drew] at hc hf hs)))
    go_ret
    refine ⟨rfl, ?_⟩
    (repeat (first | with_reducible exact Gr.refl _ | with_reducible apply Gr.undrew | with_reducible apply Gr.undrewN | with_reducible apply Gr.drew | with_reducible apply Gr.drewN | with_reducible apply Gr.grow | with_reducible apply Gr.alloc | (with_reducible refine Gr.setCell ?_ (by first | (simp; done) | (simp; omega)) _) | with_reducible assumption | (refine Gr.trans ?_ (by with_reducible assumption))))

end Go.Proofs.Ytghhanophenhbaa
