/- The movement of a limited cursor, by its contract. -/
import Derived.Test.YtghhanophenhbaaCurB
namespace Go.Proofs.Ytghhanophenhbaa
set_option linter.unusedSimpArgs false
set_option linter.unusedVariables false
set_option linter.unusedSectionVars false
open Go.RowKit

set_option maxHeartbeats 1000000 in
theorem move_yes2 (k : FuncId) (q1 q2 : Value) (r c : Int) (p : Bool) (W H T B : Int) (o : Bool) (w : World) (r' c' : Int) (h1 : 1 ≤ W) (h2 : W ≤ 132) (h3 : 1 ≤ H) (h4 : H ≤ 60) (h5 : 0 ≤ T) (h6 : T < B) (h7 : B ≤ H)
    (hk : ∀ (xs : Array Value) (w : World), (callFunc k xs).run Try.prog w = .ok (.enter k xs) w)
    (hcl : ∀ (w1 : World) (bp : Nat), Gr w w1 → w.heap.size ≤ bp → bp < w1.heap.size → w1.cell? ⟨bp, 0, none⟩ = some (.int .i64 (lim r 0 (H - 1))) → w1.cell? ⟨bp, 1, none⟩ = some (.int .i64 (lim c 0 (W - 1))) → w1.frozen? ⟨bp, 0, none⟩ = false → w1.frozen? ⟨bp, 1, none⟩ = false →
      Calls Try.prog k #[.pointer (some ⟨bp, 0, none⟩), .func (.func 38) #[] #[], q1, q2] w1 fun e w' => e = .returned (.tuple #[]) ∧ Gr ((w1.setCell ⟨bp, 0, none⟩ (.int .i64 r')).setCell ⟨bp, 1, none⟩ (.int .i64 c')) w') :
    Calls Try.prog 27 #[cur r c p, bnd W H T B o, .func (.func k) #[] #[q1, q2]] w fun e w' => e = .returned (cur r' c' false) ∧ Gr w w' := by
  have HC := Lib.hid hcl
  clear hcl
  go_enter Try.func27, Try.ntmps27
  go_wp2_with (first
    | (go_at_call 11; refine (check_yes _ _ _ _ _ _ h1 h2 h3 h4 h5 h6 h7).mono ?_; rintro e w1 ⟨rfl, hg⟩; obtain ⟨cN, fN, hc, hf, hs⟩ := hg.facts; (try simp only [World.size_alloc, World.size_drew] at hc hf hs))
    | (go_at_call 34; refine (inside_any _ _ _ _ _ _ _ _ _ h1 h2 h3 h4).mono ?_; rintro e w2 ⟨rfl, hg2⟩; obtain ⟨cN, fN, hc, hf, hs⟩ := hg2.facts; (try simp only [World.size_alloc, World.size_drew] at hc hf hs)))
  refine (HC.out _ _ ?_ ?_ ?_ ?_ ?_ ?_ ?_).mono ?_
  · (repeat (first | with_reducible exact Gr.refl _ | with_reducible apply Gr.undrew | with_reducible apply Gr.undrewN | with_reducible apply Gr.drew | with_reducible apply Gr.drewN | with_reducible apply Gr.grow | with_reducible apply Gr.alloc | (with_reducible refine Gr.setCell ?_ (by first | (simp; done) | (simp; omega)) _) | with_reducible assumption | (refine Gr.trans ?_ (by with_reducible assumption))))
  · omega
  · simp
  · simp [go_sem]
  · simp [go_sem]
  · simp [go_sem]
  · simp [go_sem]
  rintro e w3 ⟨rfl, hg3⟩
  have e3 : ((w2.alloc (.cells #[.int .i64 (lim r 0 (H - 1)), .int .i64 (lim c 0 (W - 1)), .bool false] 23)).setCell ⟨w2.heap.size, 0, none⟩ (.int .i64 r')).setCell ⟨w2.heap.size, 1, none⟩ (.int .i64 c') = w2.alloc (.cells #[.int .i64 r', .int .i64 c', .bool false] 23) := by simp [go_sem]
  rw [e3] at hg3
  obtain ⟨cN, fN, hc, hf, hs⟩ := hg3.facts
  simp only [World.size_alloc, World.size_drew] at hc hf hs
  clear HC hk
  go_wp2
  refine bodyPost_ret (v := cur r' c' false) (by simp [*, results, Try.results27, go_sem, ↓IntWalk.iteOmega]) rfl ⟨rfl, ?_⟩
  (repeat (first | with_reducible exact Gr.refl _ | with_reducible apply Gr.undrew | with_reducible apply Gr.undrewN | with_reducible apply Gr.drew | with_reducible apply Gr.drewN | with_reducible apply Gr.grow | with_reducible apply Gr.alloc | (with_reducible refine Gr.setCell ?_ (by first | (simp; done) | (simp; omega)) _) | with_reducible assumption | (refine Gr.trans ?_ (by with_reducible assumption))))
set_option maxHeartbeats 1000000 in
theorem move_yes3 (k : FuncId) (q1 q2 q3 : Value) (r c : Int) (p : Bool) (W H T B : Int) (o : Bool) (w : World) (r' c' : Int) (h1 : 1 ≤ W) (h2 : W ≤ 132) (h3 : 1 ≤ H) (h4 : H ≤ 60) (h5 : 0 ≤ T) (h6 : T < B) (h7 : B ≤ H)
    (hk : ∀ (xs : Array Value) (w : World), (callFunc k xs).run Try.prog w = .ok (.enter k xs) w)
    (hcl : ∀ (w1 : World) (bp : Nat), Gr w w1 → w.heap.size ≤ bp → bp < w1.heap.size → w1.cell? ⟨bp, 0, none⟩ = some (.int .i64 (lim r 0 (H - 1))) → w1.cell? ⟨bp, 1, none⟩ = some (.int .i64 (lim c 0 (W - 1))) → w1.frozen? ⟨bp, 0, none⟩ = false → w1.frozen? ⟨bp, 1, none⟩ = false →
      Calls Try.prog k #[.pointer (some ⟨bp, 0, none⟩), .func (.func 38) #[] #[], q1, q2, q3] w1 fun e w' => e = .returned (.tuple #[]) ∧ Gr ((w1.setCell ⟨bp, 0, none⟩ (.int .i64 r')).setCell ⟨bp, 1, none⟩ (.int .i64 c')) w') :
    Calls Try.prog 27 #[cur r c p, bnd W H T B o, .func (.func k) #[] #[q1, q2, q3]] w fun e w' => e = .returned (cur r' c' false) ∧ Gr w w' := by
  have HC := Lib.hid hcl
  clear hcl
  go_enter Try.func27, Try.ntmps27
  go_wp2_with (first
    | (go_at_call 11; refine (check_yes _ _ _ _ _ _ h1 h2 h3 h4 h5 h6 h7).mono ?_; rintro e w1 ⟨rfl, hg⟩; obtain ⟨cN, fN, hc, hf, hs⟩ := hg.facts; (try simp only [World.size_alloc, World.size_drew] at hc hf hs))
    | (go_at_call 34; refine (inside_any _ _ _ _ _ _ _ _ _ h1 h2 h3 h4).mono ?_; rintro e w2 ⟨rfl, hg2⟩; obtain ⟨cN, fN, hc, hf, hs⟩ := hg2.facts; (try simp only [World.size_alloc, World.size_drew] at hc hf hs)))
  refine (HC.out _ _ ?_ ?_ ?_ ?_ ?_ ?_ ?_).mono ?_
  · (repeat (first | with_reducible exact Gr.refl _ | with_reducible apply Gr.undrew | with_reducible apply Gr.undrewN | with_reducible apply Gr.drew | with_reducible apply Gr.drewN | with_reducible apply Gr.grow | with_reducible apply Gr.alloc | (with_reducible refine Gr.setCell ?_ (by first | (simp; done) | (simp; omega)) _) | with_reducible assumption | (refine Gr.trans ?_ (by with_reducible assumption))))
  · omega
  · simp
  · simp [go_sem]
  · simp [go_sem]
  · simp [go_sem]
  · simp [go_sem]
  rintro e w3 ⟨rfl, hg3⟩
  have e3 : ((w2.alloc (.cells #[.int .i64 (lim r 0 (H - 1)), .int .i64 (lim c 0 (W - 1)), .bool false] 23)).setCell ⟨w2.heap.size, 0, none⟩ (.int .i64 r')).setCell ⟨w2.heap.size, 1, none⟩ (.int .i64 c') = w2.alloc (.cells #[.int .i64 r', .int .i64 c', .bool false] 23) := by simp [go_sem]
  rw [e3] at hg3
  obtain ⟨cN, fN, hc, hf, hs⟩ := hg3.facts
  simp only [World.size_alloc, World.size_drew] at hc hf hs
  clear HC hk
  go_wp2
  refine bodyPost_ret (v := cur r' c' false) (by simp [*, results, Try.results27, go_sem, ↓IntWalk.iteOmega]) rfl ⟨rfl, ?_⟩
  (repeat (first | with_reducible exact Gr.refl _ | with_reducible apply Gr.undrew | with_reducible apply Gr.undrewN | with_reducible apply Gr.drew | with_reducible apply Gr.drewN | with_reducible apply Gr.grow | with_reducible apply Gr.alloc | (with_reducible refine Gr.setCell ?_ (by first | (simp; done) | (simp; omega)) _) | with_reducible assumption | (refine Gr.trans ?_ (by with_reducible assumption))))
set_option maxHeartbeats 1000000 in
theorem move_yes0 (k : FuncId) (r c : Int) (p : Bool) (W H T B : Int) (o : Bool) (w : World) (r' c' : Int) (h1 : 1 ≤ W) (h2 : W ≤ 132) (h3 : 1 ≤ H) (h4 : H ≤ 60) (h5 : 0 ≤ T) (h6 : T < B) (h7 : B ≤ H)
    (hk : ∀ (xs : Array Value) (w : World), (callFunc k xs).run Try.prog w = .ok (.enter k xs) w)
    (hcl : ∀ (w1 : World) (bp : Nat), Gr w w1 → w.heap.size ≤ bp → bp < w1.heap.size → w1.cell? ⟨bp, 0, none⟩ = some (.int .i64 (lim r 0 (H - 1))) → w1.cell? ⟨bp, 1, none⟩ = some (.int .i64 (lim c 0 (W - 1))) → w1.frozen? ⟨bp, 0, none⟩ = false → w1.frozen? ⟨bp, 1, none⟩ = false →
      Calls Try.prog k #[.pointer (some ⟨bp, 0, none⟩), .func (.func 38) #[] #[]] w1 fun e w' => e = .returned (.tuple #[]) ∧ Gr ((w1.setCell ⟨bp, 0, none⟩ (.int .i64 r')).setCell ⟨bp, 1, none⟩ (.int .i64 c')) w') :
    Calls Try.prog 27 #[cur r c p, bnd W H T B o, .func (.func k) #[] #[]] w fun e w' => e = .returned (cur r' c' false) ∧ Gr w w' := by
  have HC := Lib.hid hcl
  clear hcl
  go_enter Try.func27, Try.ntmps27
  go_wp2_with (first
    | (go_at_call 11; refine (check_yes _ _ _ _ _ _ h1 h2 h3 h4 h5 h6 h7).mono ?_; rintro e w1 ⟨rfl, hg⟩; obtain ⟨cN, fN, hc, hf, hs⟩ := hg.facts; (try simp only [World.size_alloc, World.size_drew] at hc hf hs))
    | (go_at_call 34; refine (inside_any _ _ _ _ _ _ _ _ _ h1 h2 h3 h4).mono ?_; rintro e w2 ⟨rfl, hg2⟩; obtain ⟨cN, fN, hc, hf, hs⟩ := hg2.facts; (try simp only [World.size_alloc, World.size_drew] at hc hf hs)))
  refine (HC.out _ _ ?_ ?_ ?_ ?_ ?_ ?_ ?_).mono ?_
  · (repeat (first | with_reducible exact Gr.refl _ | with_reducible apply Gr.undrew | with_reducible apply Gr.undrewN | with_reducible apply Gr.drew | with_reducible apply Gr.drewN | with_reducible apply Gr.grow | with_reducible apply Gr.alloc | (with_reducible refine Gr.setCell ?_ (by first | (simp; done) | (simp; omega)) _) | with_reducible assumption | (refine Gr.trans ?_ (by with_reducible assumption))))
  · omega
  · simp
  · simp [go_sem]
  · simp [go_sem]
  · simp [go_sem]
  · simp [go_sem]
  rintro e w3 ⟨rfl, hg3⟩
  have e3 : ((w2.alloc (.cells #[.int .i64 (lim r 0 (H - 1)), .int .i64 (lim c 0 (W - 1)), .bool false] 23)).setCell ⟨w2.heap.size, 0, none⟩ (.int .i64 r')).setCell ⟨w2.heap.size, 1, none⟩ (.int .i64 c') = w2.alloc (.cells #[.int .i64 r', .int .i64 c', .bool false] 23) := by simp [go_sem]
  rw [e3] at hg3
  obtain ⟨cN, fN, hc, hf, hs⟩ := hg3.facts
  simp only [World.size_alloc, World.size_drew] at hc hf hs
  clear HC hk
  go_wp2
  refine bodyPost_ret (v := cur r' c' false) (by simp [*, results, Try.results27, go_sem, ↓IntWalk.iteOmega]) rfl ⟨rfl, ?_⟩
  (repeat (first | with_reducible exact Gr.refl _ | with_reducible apply Gr.undrew | with_reducible apply Gr.undrewN | with_reducible apply Gr.drew | with_reducible apply Gr.drewN | with_reducible apply Gr.grow | with_reducible apply Gr.alloc | (with_reducible refine Gr.setCell ?_ (by first | (simp; done) | (simp; omega)) _) | with_reducible assumption | (refine Gr.trans ?_ (by with_reducible assumption))))

set_option maxHeartbeats 1000000 in
theorem move_no2 (k : FuncId) (q1 q2 : Value) (r c : Int) (p : Bool) (W H T B : Int) (o : Bool) (w : World) (h : ¬ okB W H T B) :
    Calls Try.prog 27 #[cur r c p, bnd W H T B o, .func (.func k) #[] #[q1, q2]] w fun e w' => e = .returned (cur 0 0 false) ∧ Gr w w' := by
  go_enter Try.func27, Try.ntmps27
  go_wp2_with (go_at_call 11; refine (check_no _ _ _ _ _ _ h).mono ?_; rintro e w1 ⟨rfl, hg⟩; obtain ⟨cN, fN, hc, hf, hs⟩ := hg.facts; (try simp only [World.size_alloc, World.size_drew] at hc hf hs))
  refine bodyPost_ret (v := cur 0 0 false) (by simp [*, results, Try.results27, go_sem, ↓IntWalk.iteOmega]) rfl ⟨rfl, ?_⟩
  (repeat (first | with_reducible exact Gr.refl _ | with_reducible apply Gr.undrew | with_reducible apply Gr.undrewN | with_reducible apply Gr.drew | with_reducible apply Gr.drewN | with_reducible apply Gr.grow | with_reducible apply Gr.alloc | (with_reducible refine Gr.setCell ?_ (by first | (simp; done) | (simp; omega)) _) | with_reducible assumption | (refine Gr.trans ?_ (by with_reducible assumption))))

set_option maxHeartbeats 1000000 in
theorem move_no3 (k : FuncId) (q1 q2 q3 : Value) (r c : Int) (p : Bool) (W H T B : Int) (o : Bool) (w : World) (h : ¬ okB W H T B) :
    Calls Try.prog 27 #[cur r c p, bnd W H T B o, .func (.func k) #[] #[q1, q2, q3]] w fun e w' => e = .returned (cur 0 0 false) ∧ Gr w w' := by
  go_enter Try.func27, Try.ntmps27
  go_wp2_with (go_at_call 11; refine (check_no _ _ _ _ _ _ h).mono ?_; rintro e w1 ⟨rfl, hg⟩; obtain ⟨cN, fN, hc, hf, hs⟩ := hg.facts; (try simp only [World.size_alloc, World.size_drew] at hc hf hs))
  refine bodyPost_ret (v := cur 0 0 false) (by simp [*, results, Try.results27, go_sem, ↓IntWalk.iteOmega]) rfl ⟨rfl, ?_⟩
  (repeat (first | with_reducible exact Gr.refl _ | with_reducible apply Gr.undrew | with_reducible apply Gr.undrewN | with_reducible apply Gr.drew | with_reducible apply Gr.drewN | with_reducible apply Gr.grow | with_reducible apply Gr.alloc | (with_reducible refine Gr.setCell ?_ (by first | (simp; done) | (simp; omega)) _) | with_reducible assumption | (refine Gr.trans ?_ (by with_reducible assumption))))

set_option maxHeartbeats 1000000 in
theorem move_no0 (k : FuncId) (r c : Int) (p : Bool) (W H T B : Int) (o : Bool) (w : World) (h : ¬ okB W H T B) :
    Calls Try.prog 27 #[cur r c p, bnd W H T B o, .func (.func k) #[] #[]] w fun e w' => e = .returned (cur 0 0 false) ∧ Gr w w' := by
  go_enter Try.func27, Try.ntmps27
  go_wp2_with (go_at_call 11; refine (check_no _ _ _ _ _ _ h).mono ?_; rintro e w1 ⟨rfl, hg⟩; obtain ⟨cN, fN, hc, hf, hs⟩ := hg.facts; (try simp only [World.size_alloc, World.size_drew] at hc hf hs))
  refine bodyPost_ret (v := cur 0 0 false) (by simp [*, results, Try.results27, go_sem, ↓IntWalk.iteOmega]) rfl ⟨rfl, ?_⟩
  (repeat (first | with_reducible exact Gr.refl _ | with_reducible apply Gr.undrew | with_reducible apply Gr.undrewN | with_reducible apply Gr.drew | with_reducible apply Gr.drewN | with_reducible apply Gr.grow | with_reducible apply Gr.alloc | (with_reducible refine Gr.setCell ?_ (by first | (simp; done) | (simp; omega)) _) | with_reducible assumption | (refine Gr.trans ?_ (by with_reducible assumption))))

end Go.Proofs.Ytghhanophenhbaa
