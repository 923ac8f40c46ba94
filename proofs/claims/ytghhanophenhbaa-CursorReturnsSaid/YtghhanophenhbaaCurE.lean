/- The exported functions of package cursor, by their contracts: the rest. -/
import Derived.Test.YtghhanophenhbaaCurD
namespace Go.Proofs.Ytghhanophenhbaa
set_option linter.unusedSimpArgs false
set_option linter.unusedVariables false
set_option linter.unusedSectionVars false
open Go.RowKit

def toRow (o : Bool) (row H T B : Int) : Int := if o then lim (T + (lim row 1 1000 - 1)) T (B - 1) else lim (lim row 1 1000 - 1) 0 (H - 1)
def toCol (col W : Int) : Int := lim (lim col 1 1000 - 1) 0 (W - 1)

set_option maxHeartbeats 1000000 in
theorem to_yes (r c row col : Int) (p : Bool) (W H T B : Int) (o : Bool) (w : World) (h1 : 1 ≤ W) (h2 : W ≤ 132) (h3 : 1 ≤ H) (h4 : H ≤ 60) (h5 : 0 ≤ T) (h6 : T < B) (h7 : B ≤ H) :
    Calls Try.prog 20 #[cur r c p, .int .i64 row, .int .i64 col, bnd W H T B o] w fun e w' => e = .returned (cur (toRow o row H T B) (toCol col W) false) ∧ Gr w w' := by
  go_enter Try.func20, Try.ntmps20
  go_wp2_with fail
  refine (move_yes3 _ _ _ _ r c p W H T B o _ (toRow o row H T B) (toCol col W) h1 h2 h3 h4 h5 h6 h7 callTo1 ?_).mono ?_
  · intro w1 bp g l1 l2 c1 c2 f1 f2
    obtain ⟨cN, fN, hc, hf, hs⟩ := g.facts
    simp only [World.size_alloc] at hc hf hs l1
    refine (to1 o row col (lim r 0 (H - 1)) (lim c 0 (W - 1)) W H T B bp _ _ _ w1 h1 h2 h3 h4 h5 h6 h7 c1 c2 f1 f2 ?_ ?_ ?_ ?_ ?_ ?_ ?_ l2 (by omega) (by omega) (by omega) (by omega)).mono ?_
    any_goals (simp [hc, go_sem, ↓IntWalk.iteOmega]; done)
    rintro e w' ⟨rfl, hg⟩
    refine ⟨rfl, ?_⟩
    have ew : (if o then (((w1.setCell ⟨bp, 1, none⟩ (.int .i64 (lim (lim col 1 1000 - 1) 0 (W - 1)))).setCell ⟨bp, 0, none⟩ (.int .i64 (lim (lim row 1 1000 - 1) 0 (H - 1)))).setCell ⟨bp, 0, none⟩ (.int .i64 (lim (T + (lim row 1 1000 - 1)) T (B - 1)))) else
        (w1.setCell ⟨bp, 1, none⟩ (.int .i64 (lim (lim col 1 1000 - 1) 0 (W - 1)))).setCell ⟨bp, 0, none⟩ (.int .i64 (lim (lim row 1 1000 - 1) 0 (H - 1)))) = (w1.setCell ⟨bp, 0, none⟩ (.int .i64 (toRow o row H T B))).setCell ⟨bp, 1, none⟩ (.int .i64 (toCol col W)) := by
      unfold toRow toCol
      cases o
      · simp only [Bool.false_eq_true, if_false]
        exact setCell_swap _ _ _ _ _ _ (by decide)
      · simp only [if_true]
        rw [setCell_twice]
        exact setCell_swap _ _ _ _ _ _ (by decide)
    rw [← ew]
    exact hg
  rintro e w1 ⟨rfl, hg⟩
  obtain ⟨cN, fN, hc, hf, hs⟩ := hg.facts; (try simp only [World.size_alloc, World.size_drew] at hc hf hs)
  go_wp2
  refine bodyPost_ret (v := cur (toRow o row H T B) (toCol col W) false) (by simp [*, results, Try.results20, go_sem, ↓IntWalk.iteOmega]) rfl ⟨rfl, ?_⟩
  (repeat (first | with_reducible exact Gr.refl _ | with_reducible apply Gr.undrew | with_reducible apply Gr.undrewN | with_reducible apply Gr.drew | with_reducible apply Gr.drewN | with_reducible apply Gr.grow | with_reducible apply Gr.alloc | (with_reducible refine Gr.setCell ?_ (by first | (simp; done) | (simp; omega)) _) | with_reducible assumption | (refine Gr.trans ?_ (by with_reducible assumption))))

set_option maxHeartbeats 1000000 in
theorem to_no (r c row col : Int) (p : Bool) (W H T B : Int) (o : Bool) (w : World) (h : ¬ okB W H T B) :
    Calls Try.prog 20 #[cur r c p, .int .i64 row, .int .i64 col, bnd W H T B o] w fun e w' => e = .returned (cur 0 0 false) ∧ Gr w w' := by
  go_enter Try.func20, Try.ntmps20
  go_wp2_with fail
  refine (move_no3 _ _ _ _ r c p W H T B o _ h).mono ?_
  rintro e w1 ⟨rfl, hg⟩
  obtain ⟨cN, fN, hc, hf, hs⟩ := hg.facts; (try simp only [World.size_alloc, World.size_drew] at hc hf hs)
  go_wp2
  refine bodyPost_ret (v := cur 0 0 false) (by simp [*, results, Try.results20, go_sem, ↓IntWalk.iteOmega]) rfl ⟨rfl, ?_⟩
  (repeat (first | with_reducible exact Gr.refl _ | with_reducible apply Gr.undrew | with_reducible apply Gr.undrewN | with_reducible apply Gr.drew | with_reducible apply Gr.drewN | with_reducible apply Gr.grow | with_reducible apply Gr.alloc | (with_reducible refine Gr.setCell ?_ (by first | (simp; done) | (simp; omega)) _) | with_reducible assumption | (refine Gr.trans ?_ (by with_reducible assumption))))

set_option maxHeartbeats 1000000 in
theorem clamp_no (r c : Int) (p : Bool) (W H T B : Int) (o : Bool) (w : World) (h : ¬ okB W H T B) :
    Calls Try.prog 19 #[cur r c p, bnd W H T B o] w fun e w' => e = .returned (cur 0 0 false) ∧ Gr w w' := by
  go_enter Try.func19, Try.ntmps19
  go_wp2_with (go_at_call 11; refine (check_no _ _ _ _ _ _ h).mono ?_; rintro e w1 ⟨rfl, hg⟩; obtain ⟨cN, fN, hc, hf, hs⟩ := hg.facts; (try simp only [World.size_alloc, World.size_drew] at hc hf hs))
  refine bodyPost_ret (v := cur 0 0 false) (by simp [*, results, Try.results19, go_sem, ↓IntWalk.iteOmega]) rfl ⟨rfl, ?_⟩
  (repeat (first | with_reducible exact Gr.refl _ | with_reducible apply Gr.undrew | with_reducible apply Gr.undrewN | with_reducible apply Gr.drew | with_reducible apply Gr.drewN | with_reducible apply Gr.grow | with_reducible apply Gr.alloc | (with_reducible refine Gr.setCell ?_ (by first | (simp; done) | (simp; omega)) _) | with_reducible assumption | (refine Gr.trans ?_ (by with_reducible assumption))))

set_option maxHeartbeats 1000000 in
theorem clamp_yes0 (r c : Int) (W H T B : Int) (o : Bool) (w : World) (h1 : 1 ≤ W) (h2 : W ≤ 132) (h3 : 1 ≤ H) (h4 : H ≤ 60) (h5 : 0 ≤ T) (h6 : T < B) (h7 : B ≤ H)  :
    Calls Try.prog 19 #[cur r c false, bnd W H T B o] w fun e w' => e = .returned (cur (lim r 0 (H - 1)) (lim c 0 (W - 1)) false) ∧ Gr w w' := by
  go_enter Try.func19, Try.ntmps19
  go_wp2_with (first
    | (go_at_call 11; refine (check_yes _ _ _ _ _ _ h1 h2 h3 h4 h5 h6 h7).mono ?_; rintro e w1 ⟨rfl, hg⟩; obtain ⟨cN, fN, hc, hf, hs⟩ := hg.facts; (try simp only [World.size_alloc, World.size_drew] at hc hf hs))
    | (go_at_call 34; refine (inside_any _ _ _ _ _ _ _ _ _ h1 h2 h3 h4).mono ?_; rintro e w2 ⟨rfl, hg⟩; obtain ⟨cN, fN, hc, hf, hs⟩ := hg.facts; (try simp only [World.size_alloc, World.size_drew] at hc hf hs)))
  refine bodyPost_ret (v := cur (lim r 0 (H - 1)) (lim c 0 (W - 1)) false) (by simp [*, results, Try.results19, go_sem, ↓IntWalk.iteOmega]) rfl ⟨rfl, ?_⟩
  (repeat (first | with_reducible exact Gr.refl _ | with_reducible apply Gr.undrew | with_reducible apply Gr.undrewN | with_reducible apply Gr.drew | with_reducible apply Gr.drewN | with_reducible apply Gr.grow | with_reducible apply Gr.alloc | (with_reducible refine Gr.setCell ?_ (by first | (simp; done) | (simp; omega)) _) | with_reducible assumption | (refine Gr.trans ?_ (by with_reducible assumption))))

set_option maxHeartbeats 1000000 in
theorem clamp_yes1 (r c : Int) (W H T B : Int) (o : Bool) (w : World) (h1 : 1 ≤ W) (h2 : W ≤ 132) (h3 : 1 ≤ H) (h4 : H ≤ 60) (h5 : 0 ≤ T) (h6 : T < B) (h7 : B ≤ H) (hq : lim c 0 (W - 1) = W - 1) :
    Calls Try.prog 19 #[cur r c true, bnd W H T B o] w fun e w' => e = .returned (cur (lim r 0 (H - 1)) (lim c 0 (W - 1)) true) ∧ Gr w w' := by
  have hb : (lim c 0 (W - 1) == W - 1) = true := by simpa using hq
  clear hq
  go_enter Try.func19, Try.ntmps19
  go_wp2_with (first
    | (go_at_call 11; refine (check_yes _ _ _ _ _ _ h1 h2 h3 h4 h5 h6 h7).mono ?_; rintro e w1 ⟨rfl, hg⟩; obtain ⟨cN, fN, hc, hf, hs⟩ := hg.facts; (try simp only [World.size_alloc, World.size_drew] at hc hf hs))
    | (go_at_call 34; refine (inside_any _ _ _ _ _ _ _ _ _ h1 h2 h3 h4).mono ?_; rintro e w2 ⟨rfl, hg⟩; obtain ⟨cN, fN, hc, hf, hs⟩ := hg.facts; (try simp only [World.size_alloc, World.size_drew] at hc hf hs)))
  refine bodyPost_ret (v := cur (lim r 0 (H - 1)) (lim c 0 (W - 1)) true) (by simp [*, results, Try.results19, go_sem, ↓IntWalk.iteOmega]) rfl ⟨rfl, ?_⟩
  (repeat (first | with_reducible exact Gr.refl _ | with_reducible apply Gr.undrew | with_reducible apply Gr.undrewN | with_reducible apply Gr.drew | with_reducible apply Gr.drewN | with_reducible apply Gr.grow | with_reducible apply Gr.alloc | (with_reducible refine Gr.setCell ?_ (by first | (simp; done) | (simp; omega)) _) | with_reducible assumption | (refine Gr.trans ?_ (by with_reducible assumption))))

set_option maxHeartbeats 1000000 in
theorem clamp_yes2 (r c : Int) (W H T B : Int) (o : Bool) (w : World) (h1 : 1 ≤ W) (h2 : W ≤ 132) (h3 : 1 ≤ H) (h4 : H ≤ 60) (h5 : 0 ≤ T) (h6 : T < B) (h7 : B ≤ H) (hq : ¬ lim c 0 (W - 1) = W - 1) :
    Calls Try.prog 19 #[cur r c true, bnd W H T B o] w fun e w' => e = .returned (cur (lim r 0 (H - 1)) (lim c 0 (W - 1)) false) ∧ Gr w w' := by
  have hb : (lim c 0 (W - 1) == W - 1) = false := by simpa using hq
  clear hq
  go_enter Try.func19, Try.ntmps19
  go_wp2_with (first
    | (go_at_call 11; refine (check_yes _ _ _ _ _ _ h1 h2 h3 h4 h5 h6 h7).mono ?_; rintro e w1 ⟨rfl, hg⟩; obtain ⟨cN, fN, hc, hf, hs⟩ := hg.facts; (try simp only [World.size_alloc, World.size_drew] at hc hf hs))
    | (go_at_call 34; refine (inside_any _ _ _ _ _ _ _ _ _ h1 h2 h3 h4).mono ?_; rintro e w2 ⟨rfl, hg⟩; obtain ⟨cN, fN, hc, hf, hs⟩ := hg.facts; (try simp only [World.size_alloc, World.size_drew] at hc hf hs)))
  refine bodyPost_ret (v := cur (lim r 0 (H - 1)) (lim c 0 (W - 1)) false) (by simp [*, results, Try.results19, go_sem, ↓IntWalk.iteOmega]) rfl ⟨rfl, ?_⟩
  (repeat (first | with_reducible exact Gr.refl _ | with_reducible apply Gr.undrew | with_reducible apply Gr.undrewN | with_reducible apply Gr.drew | with_reducible apply Gr.drewN | with_reducible apply Gr.grow | with_reducible apply Gr.alloc | (with_reducible refine Gr.setCell ?_ (by first | (simp; done) | (simp; omega)) _) | with_reducible assumption | (refine Gr.trans ?_ (by with_reducible assumption))))

end Go.Proofs.Ytghhanophenhbaa
