/- Feed and Reverse, by their contracts. -/
import Derived.Test.YtghhanophenhbaaCurE
namespace Go.Proofs.Ytghhanophenhbaa
set_option linter.unusedSimpArgs false
set_option linter.unusedVariables false
set_option linter.unusedSectionVars false
open Go.RowKit

theorem lim_idem (n lo hi : Int) (h : lo ≤ hi) : lim (lim n lo hi) lo hi = lim n lo hi := by unfold lim; omega
theorem edgeFeed (H T B : Int) (h5 : 0 ≤ T) (h6 : T < B) : upRow (B - 1) (-1) H T B = B - 1 := by unfold upRow lim; rw [if_pos (by omega)]; omega
theorem edgeReverse (H T B : Int) (h5 : 0 ≤ T) (h6 : T < B) : upRow T 1 H T B = T := by unfold upRow lim; rw [if_pos (by omega)]; omega

set_option maxHeartbeats 1000000 in
theorem feed_no (r c : Int) (p : Bool) (W H T B : Int) (o : Bool) (w : World) (h : ¬ okB W H T B) :
    Calls Try.prog 15 #[cur r c p, bnd W H T B o] w fun e w' => e = .returned (.tuple #[cur 0 0 false, .int .i64 0]) ∧ Gr w w' := by
  cases hb : ((0 : Int) == wrap64 (B - 1))
  · go_enter Try.func15, Try.ntmps15
    go_wp2_with (first
      | (go_at_call 27; refine (move_no0 _ r c p W H T B o _ h).mono ?_; rintro e w1 ⟨rfl, hg⟩; obtain ⟨cN, fN, hc, hf, hs⟩ := hg.facts; (try simp only [World.size_alloc, World.size_drew] at hc hf hs))
      | (go_at_call 14; refine (up_no _ _ _ _ _ _ _ _ _ _ h).mono ?_; rintro e w2 ⟨rfl, hg⟩; obtain ⟨cN, fN, hc, hf, hs⟩ := hg.facts; (try simp only [World.size_alloc, World.size_drew] at hc hf hs))
      | (go_at_call 11; refine (check_no _ _ _ _ _ _ h).mono ?_; rintro e w3 ⟨rfl, hg⟩; obtain ⟨cN, fN, hc, hf, hs⟩ := hg.facts; (try simp only [World.size_alloc, World.size_drew] at hc hf hs)))
    clear hb
    refine bodyPost_ret (v := .tuple #[cur 0 0 false, .int .i64 0]) (by simp [*, results, Try.results15, go_sem, ↓IntWalk.iteOmega]) rfl ⟨rfl, ?_⟩
    (repeat (first | with_reducible exact Gr.refl _ | with_reducible apply Gr.undrew | with_reducible apply Gr.undrewN | with_reducible apply Gr.drew | with_reducible apply Gr.drewN | with_reducible apply Gr.grow | with_reducible apply Gr.alloc | (with_reducible refine Gr.setCell ?_ (by first | (simp; done) | (simp; omega)) _) | with_reducible assumption | (refine Gr.trans ?_ (by with_reducible assumption))))
  · go_enter Try.func15, Try.ntmps15
    go_wp2_with (first
      | (go_at_call 27; refine (move_no0 _ r c p W H T B o _ h).mono ?_; rintro e w1 ⟨rfl, hg⟩; obtain ⟨cN, fN, hc, hf, hs⟩ := hg.facts; (try simp only [World.size_alloc, World.size_drew] at hc hf hs))
      | (go_at_call 14; refine (up_no _ _ _ _ _ _ _ _ _ _ h).mono ?_; rintro e w2 ⟨rfl, hg⟩; obtain ⟨cN, fN, hc, hf, hs⟩ := hg.facts; (try simp only [World.size_alloc, World.size_drew] at hc hf hs))
      | (go_at_call 11; refine (check_no _ _ _ _ _ _ h).mono ?_; rintro e w3 ⟨rfl, hg⟩; obtain ⟨cN, fN, hc, hf, hs⟩ := hg.facts; (try simp only [World.size_alloc, World.size_drew] at hc hf hs)))
    clear hb
    refine bodyPost_ret (v := .tuple #[cur 0 0 false, .int .i64 0]) (by simp [*, results, Try.results15, go_sem, ↓IntWalk.iteOmega]) rfl ⟨rfl, ?_⟩
    (repeat (first | with_reducible exact Gr.refl _ | with_reducible apply Gr.undrew | with_reducible apply Gr.undrewN | with_reducible apply Gr.drew | with_reducible apply Gr.drewN | with_reducible apply Gr.grow | with_reducible apply Gr.alloc | (with_reducible refine Gr.setCell ?_ (by first | (simp; done) | (simp; omega)) _) | with_reducible assumption | (refine Gr.trans ?_ (by with_reducible assumption))))

set_option maxHeartbeats 2000000 in
theorem feed_yes (r c : Int) (p : Bool) (W H T B : Int) (o : Bool) (w : World) (h1 : 1 ≤ W) (h2 : W ≤ 132) (h3 : 1 ≤ H) (h4 : H ≤ 60) (h5 : 0 ≤ T) (h6 : T < B) (h7 : B ≤ H) :
    Calls Try.prog 15 #[cur r c p, bnd W H T B o] w fun e w' => e = .returned (.tuple #[cur (upRow (lim r 0 (H - 1)) (-1) H T B) (lim c 0 (W - 1)) false, .int .i64 (if lim r 0 (H - 1) = B - 1 then 1 else 0)]) ∧ Gr w w' := by
  have e1 : lim (lim r 0 (H - 1)) 0 (H - 1) = lim r 0 (H - 1) := lim_idem _ _ _ (by omega)
  have e2 : lim (lim c 0 (W - 1)) 0 (W - 1) = lim c 0 (W - 1) := lim_idem _ _ _ (by omega)
  have t2 : (lim (lim c 0 (W - 1)) 0 (W - 1) == lim c 0 (W - 1)) = true := by rw [e2]; simp
  by_cases hq : lim r 0 (H - 1) = B - 1
  · have e3 : upRow (lim r 0 (H - 1)) (-1) H T B = lim r 0 (H - 1) := by rw [hq]; exact edgeFeed H T B h5 h6
    have t1 : (upRow (lim (lim r 0 (H - 1)) 0 (H - 1)) (-1) H T B == lim r 0 (H - 1)) = true := by rw [e1, e3]; simp
    have t3 : (lim r 0 (H - 1) == B - 1) = true := by simpa using hq
    rw [if_pos hq, e3]
    clear e1 e2 e3 hq
    go_enter Try.func15, Try.ntmps15
    go_wp2_with (first
      | (go_at_call 27; refine (move_yes0 _ r c p W H T B o _ (lim r 0 (H - 1)) (lim c 0 (W - 1)) h1 h2 h3 h4 h5 h6 h7 callFeed1 (fun w1 bp g l1 l2 c1 c2 f1 f2 => (noopFeed _ _ w1).mono (fun e w' h => ⟨h.1, by rw [setCell_self c1, setCell_self c2, h.2]; exact Gr.refl _⟩))).mono ?_; rintro e w1 ⟨rfl, hg⟩; obtain ⟨cN, fN, hc, hf, hs⟩ := hg.facts; (try simp only [World.size_alloc, World.size_drew] at hc hf hs))
      | (go_at_call 14; refine (up_yes _ _ _ _ _ _ _ _ _ _ h1 h2 h3 h4 h5 h6 h7).mono ?_; rintro e w2 ⟨rfl, hg⟩; obtain ⟨cN, fN, hc, hf, hs⟩ := hg.facts; (try simp only [World.size_alloc, World.size_drew] at hc hf hs))
      | (go_at_call 11; refine (check_yes _ _ _ _ _ _ h1 h2 h3 h4 h5 h6 h7).mono ?_; rintro e w3 ⟨rfl, hg⟩; obtain ⟨cN, fN, hc, hf, hs⟩ := hg.facts; (try simp only [World.size_alloc, World.size_drew] at hc hf hs)))
    clear t1 t2 t3
    refine bodyPost_ret (v := .tuple #[cur (lim r 0 (H - 1)) (lim c 0 (W - 1)) false, .int .i64 1]) (by simp [*, results, Try.results15, go_sem, ↓IntWalk.iteOmega]) rfl ⟨rfl, ?_⟩
    (repeat (first | with_reducible exact Gr.refl _ | with_reducible apply Gr.undrew | with_reducible apply Gr.undrewN | with_reducible apply Gr.drew | with_reducible apply Gr.drewN | with_reducible apply Gr.grow | with_reducible apply Gr.alloc | (with_reducible refine Gr.setCell ?_ (by first | (simp; done) | (simp; omega)) _) | with_reducible assumption | (refine Gr.trans ?_ (by with_reducible assumption))))
  · have t3 : (lim r 0 (H - 1) == B - 1) = false := by simpa using hq
    rw [if_neg hq]
    have e4 := Lib.hid e1
    have e5 := Lib.hid e2
    clear e1 e2 hq
    cases t1 : (upRow (lim (lim r 0 (H - 1)) 0 (H - 1)) (-1) H T B == lim r 0 (H - 1))
    · go_enter Try.func15, Try.ntmps15
      go_wp2_with (first
        | (go_at_call 27; refine (move_yes0 _ r c p W H T B o _ (lim r 0 (H - 1)) (lim c 0 (W - 1)) h1 h2 h3 h4 h5 h6 h7 callFeed1 (fun w1 bp g l1 l2 c1 c2 f1 f2 => (noopFeed _ _ w1).mono (fun e w' h => ⟨h.1, by rw [setCell_self c1, setCell_self c2, h.2]; exact Gr.refl _⟩))).mono ?_; rintro e w1 ⟨rfl, hg⟩; obtain ⟨cN, fN, hc, hf, hs⟩ := hg.facts; (try simp only [World.size_alloc, World.size_drew] at hc hf hs))
        | (go_at_call 14; refine (up_yes _ _ _ _ _ _ _ _ _ _ h1 h2 h3 h4 h5 h6 h7).mono ?_; rintro e w2 ⟨rfl, hg⟩; obtain ⟨cN, fN, hc, hf, hs⟩ := hg.facts; (try simp only [World.size_alloc, World.size_drew] at hc hf hs)))
      clear t1 t2 t3
      have e1 := e4.out
      have e2 := e5.out
      refine bodyPost_ret (v := .tuple #[cur (upRow (lim r 0 (H - 1)) (-1) H T B) (lim c 0 (W - 1)) false, .int .i64 0]) (by simp [*, results, Try.results15, go_sem, ↓IntWalk.iteOmega]) rfl ⟨rfl, ?_⟩
      (repeat (first | with_reducible exact Gr.refl _ | with_reducible apply Gr.undrew | with_reducible apply Gr.undrewN | with_reducible apply Gr.drew | with_reducible apply Gr.drewN | with_reducible apply Gr.grow | with_reducible apply Gr.alloc | (with_reducible refine Gr.setCell ?_ (by first | (simp; done) | (simp; omega)) _) | with_reducible assumption | (refine Gr.trans ?_ (by with_reducible assumption))))
    · go_enter Try.func15, Try.ntmps15
      go_wp2_with (first
        | (go_at_call 27; refine (move_yes0 _ r c p W H T B o _ (lim r 0 (H - 1)) (lim c 0 (W - 1)) h1 h2 h3 h4 h5 h6 h7 callFeed1 (fun w1 bp g l1 l2 c1 c2 f1 f2 => (noopFeed _ _ w1).mono (fun e w' h => ⟨h.1, by rw [setCell_self c1, setCell_self c2, h.2]; exact Gr.refl _⟩))).mono ?_; rintro e w1 ⟨rfl, hg⟩; obtain ⟨cN, fN, hc, hf, hs⟩ := hg.facts; (try simp only [World.size_alloc, World.size_drew] at hc hf hs))
        | (go_at_call 14; refine (up_yes _ _ _ _ _ _ _ _ _ _ h1 h2 h3 h4 h5 h6 h7).mono ?_; rintro e w2 ⟨rfl, hg⟩; obtain ⟨cN, fN, hc, hf, hs⟩ := hg.facts; (try simp only [World.size_alloc, World.size_drew] at hc hf hs)))
      clear t1 t2 t3
      have e1 := e4.out
      have e2 := e5.out
      refine bodyPost_ret (v := .tuple #[cur (upRow (lim r 0 (H - 1)) (-1) H T B) (lim c 0 (W - 1)) false, .int .i64 0]) (by simp [*, results, Try.results15, go_sem, ↓IntWalk.iteOmega]) rfl ⟨rfl, ?_⟩
      (repeat (first | with_reducible exact Gr.refl _ | with_reducible apply Gr.undrew | with_reducible apply Gr.undrewN | with_reducible apply Gr.drew | with_reducible apply Gr.drewN | with_reducible apply Gr.grow | with_reducible apply Gr.alloc | (with_reducible refine Gr.setCell ?_ (by first | (simp; done) | (simp; omega)) _) | with_reducible assumption | (refine Gr.trans ?_ (by with_reducible assumption))))

set_option maxHeartbeats 1000000 in
theorem reverse_no (r c : Int) (p : Bool) (W H T B : Int) (o : Bool) (w : World) (h : ¬ okB W H T B) :
    Calls Try.prog 17 #[cur r c p, bnd W H T B o] w fun e w' => e = .returned (.tuple #[cur 0 0 false, .int .i64 0]) ∧ Gr w w' := by
  cases hb : ((0 : Int) == T)
  · go_enter Try.func17, Try.ntmps17
    go_wp2_with (first
      | (go_at_call 27; refine (move_no0 _ r c p W H T B o _ h).mono ?_; rintro e w1 ⟨rfl, hg⟩; obtain ⟨cN, fN, hc, hf, hs⟩ := hg.facts; (try simp only [World.size_alloc, World.size_drew] at hc hf hs))
      | (go_at_call 14; refine (up_no _ _ _ _ _ _ _ _ _ _ h).mono ?_; rintro e w2 ⟨rfl, hg⟩; obtain ⟨cN, fN, hc, hf, hs⟩ := hg.facts; (try simp only [World.size_alloc, World.size_drew] at hc hf hs))
      | (go_at_call 11; refine (check_no _ _ _ _ _ _ h).mono ?_; rintro e w3 ⟨rfl, hg⟩; obtain ⟨cN, fN, hc, hf, hs⟩ := hg.facts; (try simp only [World.size_alloc, World.size_drew] at hc hf hs)))
    clear hb
    refine bodyPost_ret (v := .tuple #[cur 0 0 false, .int .i64 0]) (by simp [*, results, Try.results17, go_sem, ↓IntWalk.iteOmega]) rfl ⟨rfl, ?_⟩
    (repeat (first | with_reducible exact Gr.refl _ | with_reducible apply Gr.undrew | with_reducible apply Gr.undrewN | with_reducible apply Gr.drew | with_reducible apply Gr.drewN | with_reducible apply Gr.grow | with_reducible apply Gr.alloc | (with_reducible refine Gr.setCell ?_ (by first | (simp; done) | (simp; omega)) _) | with_reducible assumption | (refine Gr.trans ?_ (by with_reducible assumption))))
  · go_enter Try.func17, Try.ntmps17
    go_wp2_with (first
      | (go_at_call 27; refine (move_no0 _ r c p W H T B o _ h).mono ?_; rintro e w1 ⟨rfl, hg⟩; obtain ⟨cN, fN, hc, hf, hs⟩ := hg.facts; (try simp only [World.size_alloc, World.size_drew] at hc hf hs))
      | (go_at_call 14; refine (up_no _ _ _ _ _ _ _ _ _ _ h).mono ?_; rintro e w2 ⟨rfl, hg⟩; obtain ⟨cN, fN, hc, hf, hs⟩ := hg.facts; (try simp only [World.size_alloc, World.size_drew] at hc hf hs))
      | (go_at_call 11; refine (check_no _ _ _ _ _ _ h).mono ?_; rintro e w3 ⟨rfl, hg⟩; obtain ⟨cN, fN, hc, hf, hs⟩ := hg.facts; (try simp only [World.size_alloc, World.size_drew] at hc hf hs)))
    clear hb
    refine bodyPost_ret (v := .tuple #[cur 0 0 false, .int .i64 0]) (by simp [*, results, Try.results17, go_sem, ↓IntWalk.iteOmega]) rfl ⟨rfl, ?_⟩
    (repeat (first | with_reducible exact Gr.refl _ | with_reducible apply Gr.undrew | with_reducible apply Gr.undrewN | with_reducible apply Gr.drew | with_reducible apply Gr.drewN | with_reducible apply Gr.grow | with_reducible apply Gr.alloc | (with_reducible refine Gr.setCell ?_ (by first | (simp; done) | (simp; omega)) _) | with_reducible assumption | (refine Gr.trans ?_ (by with_reducible assumption))))

set_option maxHeartbeats 2000000 in
theorem reverse_yes (r c : Int) (p : Bool) (W H T B : Int) (o : Bool) (w : World) (h1 : 1 ≤ W) (h2 : W ≤ 132) (h3 : 1 ≤ H) (h4 : H ≤ 60) (h5 : 0 ≤ T) (h6 : T < B) (h7 : B ≤ H) :
    Calls Try.prog 17 #[cur r c p, bnd W H T B o] w fun e w' => e = .returned (.tuple #[cur (upRow (lim r 0 (H - 1)) 1 H T B) (lim c 0 (W - 1)) false, .int .i64 (if lim r 0 (H - 1) = T then 1 else 0)]) ∧ Gr w w' := by
  have e1 : lim (lim r 0 (H - 1)) 0 (H - 1) = lim r 0 (H - 1) := lim_idem _ _ _ (by omega)
  have e2 : lim (lim c 0 (W - 1)) 0 (W - 1) = lim c 0 (W - 1) := lim_idem _ _ _ (by omega)
  have t2 : (lim (lim c 0 (W - 1)) 0 (W - 1) == lim c 0 (W - 1)) = true := by rw [e2]; simp
  by_cases hq : lim r 0 (H - 1) = T
  · have e3 : upRow (lim r 0 (H - 1)) 1 H T B = lim r 0 (H - 1) := by rw [hq]; exact edgeReverse H T B h5 h6
    have t1 : (upRow (lim (lim r 0 (H - 1)) 0 (H - 1)) 1 H T B == lim r 0 (H - 1)) = true := by rw [e1, e3]; simp
    have t3 : (lim r 0 (H - 1) == T) = true := by simpa using hq
    rw [if_pos hq, e3]
    clear e1 e2 e3 hq
    go_enter Try.func17, Try.ntmps17
    go_wp2_with (first
      | (go_at_call 27; refine (move_yes0 _ r c p W H T B o _ (lim r 0 (H - 1)) (lim c 0 (W - 1)) h1 h2 h3 h4 h5 h6 h7 callReverse1 (fun w1 bp g l1 l2 c1 c2 f1 f2 => (noopReverse _ _ w1).mono (fun e w' h => ⟨h.1, by rw [setCell_self c1, setCell_self c2, h.2]; exact Gr.refl _⟩))).mono ?_; rintro e w1 ⟨rfl, hg⟩; obtain ⟨cN, fN, hc, hf, hs⟩ := hg.facts; (try simp only [World.size_alloc, World.size_drew] at hc hf hs))
      | (go_at_call 14; refine (up_yes _ _ _ _ _ _ _ _ _ _ h1 h2 h3 h4 h5 h6 h7).mono ?_; rintro e w2 ⟨rfl, hg⟩; obtain ⟨cN, fN, hc, hf, hs⟩ := hg.facts; (try simp only [World.size_alloc, World.size_drew] at hc hf hs))
      | (go_at_call 11; refine (check_yes _ _ _ _ _ _ h1 h2 h3 h4 h5 h6 h7).mono ?_; rintro e w3 ⟨rfl, hg⟩; obtain ⟨cN, fN, hc, hf, hs⟩ := hg.facts; (try simp only [World.size_alloc, World.size_drew] at hc hf hs)))
    clear t1 t2 t3
    refine bodyPost_ret (v := .tuple #[cur (lim r 0 (H - 1)) (lim c 0 (W - 1)) false, .int .i64 1]) (by simp [*, results, Try.results17, go_sem, ↓IntWalk.iteOmega]) rfl ⟨rfl, ?_⟩
    (repeat (first | with_reducible exact Gr.refl _ | with_reducible apply Gr.undrew | with_reducible apply Gr.undrewN | with_reducible apply Gr.drew | with_reducible apply Gr.drewN | with_reducible apply Gr.grow | with_reducible apply Gr.alloc | (with_reducible refine Gr.setCell ?_ (by first | (simp; done) | (simp; omega)) _) | with_reducible assumption | (refine Gr.trans ?_ (by with_reducible assumption))))
  · have t3 : (lim r 0 (H - 1) == T) = false := by simpa using hq
    rw [if_neg hq]
    have e4 := Lib.hid e1
    have e5 := Lib.hid e2
    clear e1 e2 hq
    cases t1 : (upRow (lim (lim r 0 (H - 1)) 0 (H - 1)) 1 H T B == lim r 0 (H - 1))
    · go_enter Try.func17, Try.ntmps17
      go_wp2_with (first
        | (go_at_call 27; refine (move_yes0 _ r c p W H T B o _ (lim r 0 (H - 1)) (lim c 0 (W - 1)) h1 h2 h3 h4 h5 h6 h7 callReverse1 (fun w1 bp g l1 l2 c1 c2 f1 f2 => (noopReverse _ _ w1).mono (fun e w' h => ⟨h.1, by rw [setCell_self c1, setCell_self c2, h.2]; exact Gr.refl _⟩))).mono ?_; rintro e w1 ⟨rfl, hg⟩; obtain ⟨cN, fN, hc, hf, hs⟩ := hg.facts; (try simp only [World.size_alloc, World.size_drew] at hc hf hs))
        | (go_at_call 14; refine (up_yes _ _ _ _ _ _ _ _ _ _ h1 h2 h3 h4 h5 h6 h7).mono ?_; rintro e w2 ⟨rfl, hg⟩; obtain ⟨cN, fN, hc, hf, hs⟩ := hg.facts; (try simp only [World.size_alloc, World.size_drew] at hc hf hs)))
      clear t1 t2 t3
      have e1 := e4.out
      have e2 := e5.out
      refine bodyPost_ret (v := .tuple #[cur (upRow (lim r 0 (H - 1)) 1 H T B) (lim c 0 (W - 1)) false, .int .i64 0]) (by simp [*, results, Try.results17, go_sem, ↓IntWalk.iteOmega]) rfl ⟨rfl, ?_⟩
      (repeat (first | with_reducible exact Gr.refl _ | with_reducible apply Gr.undrew | with_reducible apply Gr.undrewN | with_reducible apply Gr.drew | with_reducible apply Gr.drewN | with_reducible apply Gr.grow | with_reducible apply Gr.alloc | (with_reducible refine Gr.setCell ?_ (by first | (simp; done) | (simp; omega)) _) | with_reducible assumption | (refine Gr.trans ?_ (by with_reducible assumption))))
    · go_enter Try.func17, Try.ntmps17
      go_wp2_with (first
        | (go_at_call 27; refine (move_yes0 _ r c p W H T B o _ (lim r 0 (H - 1)) (lim c 0 (W - 1)) h1 h2 h3 h4 h5 h6 h7 callReverse1 (fun w1 bp g l1 l2 c1 c2 f1 f2 => (noopReverse _ _ w1).mono (fun e w' h => ⟨h.1, by rw [setCell_self c1, setCell_self c2, h.2]; exact Gr.refl _⟩))).mono ?_; rintro e w1 ⟨rfl, hg⟩; obtain ⟨cN, fN, hc, hf, hs⟩ := hg.facts; (try simp only [World.size_alloc, World.size_drew] at hc hf hs))
        | (go_at_call 14; refine (up_yes _ _ _ _ _ _ _ _ _ _ h1 h2 h3 h4 h5 h6 h7).mono ?_; rintro e w2 ⟨rfl, hg⟩; obtain ⟨cN, fN, hc, hf, hs⟩ := hg.facts; (try simp only [World.size_alloc, World.size_drew] at hc hf hs)))
      clear t1 t2 t3
      have e1 := e4.out
      have e2 := e5.out
      refine bodyPost_ret (v := .tuple #[cur (upRow (lim r 0 (H - 1)) 1 H T B) (lim c 0 (W - 1)) false, .int .i64 0]) (by simp [*, results, Try.results17, go_sem, ↓IntWalk.iteOmega]) rfl ⟨rfl, ?_⟩
      (repeat (first | with_reducible exact Gr.refl _ | with_reducible apply Gr.undrew | with_reducible apply Gr.undrewN | with_reducible apply Gr.drew | with_reducible apply Gr.drewN | with_reducible apply Gr.grow | with_reducible apply Gr.alloc | (with_reducible refine Gr.setCell ?_ (by first | (simp; done) | (simp; omega)) _) | with_reducible assumption | (refine Gr.trans ?_ (by with_reducible assumption))))

end Go.Proofs.Ytghhanophenhbaa
