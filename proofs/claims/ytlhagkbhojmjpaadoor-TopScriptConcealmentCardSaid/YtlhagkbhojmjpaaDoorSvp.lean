/- Package scriptvm: the method simple, the instructions with one operand. -/
import Derived.Test.YtlhagkbhojmjpaaDoorSvo
namespace Go.Proofs.YtlhagkbhojmjpaaDoor
set_option linter.unusedSimpArgs false
set_option linter.unusedVariables false
set_option maxRecDepth 100000
set_option maxHeartbeats 4000000
section
open Go.RowKit Go.Shelf
theorem simple_4 {w0 : World} {l : List Gl} {W : World} {B : Nat} {m : Mch} {arg : Int} (h : Env w0 l B m W) :
    Calls Tryd.prog 30 #[.pointer (some ⟨B, 0, none⟩), insV 4 arg] W fun e W' => (∃ v, e = .returned v) ∧ Env w0 l B (pushS (popS m) (codeZ l (popV m))) W' ∧ W.grownBy W' (some B) := by
  have key := fun o => (h.alloc o).value 4 arg
  have hn : valZ m l 4 arg = none := rfl
  rw [hn] at key
  refine (callsIn_wide (n := 8)).1 ?_
  refine callsIn_of_wp Tryd.func30 rfl trivial ?_ rfl
  unfold insV at key ⊢
  simp only [Tryd.ntmps30, List.size_toArray, List.length_cons, List.length_nil, Nat.reduceAdd, Nat.reduceSub, Array.replicate_succ, Array.replicate_zero, List.push_toArray, List.append_toArray, List.nil_append, List.cons_append]
  gi_wp2_with (refine ⟨trivial, ?_⟩; gi_at_call 59; refine (callsIn_wide.2 (key _)).mono ?_; rintro e W1 ⟨rfl, h1, g1⟩)
  have n1 := World.alloc_heap_new W (.cells #[.int .i64 4, .int .i64 arg] 88)
  have hB1 : W.heap.size ≠ B := fun e => by have := h.hm.lt; omega
  have n2 := copy_kept n1 g1 hB1
  have c0 := copy_cell n2 0 rfl
  have g2 := kept_alloc g1
  clear key h n1 g1 hn
  have hop9 := fun W => operations_in W
  gi_region_with (refine ⟨trivial, ?_⟩; gi_at_call 60; refine (callsIn_wide.2 (hop9 _)).mono ?_; rintro e W3 ⟨rfl, hb3, hB3⟩; obtain ⟨zv, hzv⟩ := zero_fun W3; have hlk := run_lookup_none (P := Tryd.prog) 134 3 132 W1.heap.size _ _ 4 _ Tryd.underlying134 Tryd.underlying3 hb3 hzv (by rfl); have n3 := (hB3.block _ (show W.heap.size < W1.drew.heap.size from (Array.getElem?_eq_some_iff.1 n2).1)).trans n2; have c3 := copy_cell n3 0 rfl; have hE := h1.drew.grow hB3; have hG := grown_trans g2 (grown_trans (grown_drew ⟨rfl, rfl, rfl, Nat.le_refl _, fun _ _ _ => rfl⟩) (grown_below hB3 _)))
  all_goals
    have d0 := fun W9 (hg9 : W3.grownBy W9 (some B)) => copy_cell (copy_kept n3 hg9 hB1) 0 rfl
    clear hlk n2 h1 g2 hop9 c0 hzv hb3
    gi_wp2_with (first
      | (refine ⟨trivial, ?_⟩; gi_at_call 29; refine (callsIn_wide.2 hE.pop).mono ?_; rintro e W9 ⟨rfl, hE, hg⟩; have c9 := d0 _ hg; (first | have hG := grown_trans hG hg | have hG := grown_trans hG (kept_alloc hg)))
      | (refine ⟨trivial, ?_⟩; gi_at_call 62; refine (callsIn_wide.2 (hE.code _)).mono ?_; rintro e W9 ⟨rfl, hE, hg⟩; (first | have hG := grown_trans hG hg | have hG := grown_trans hG (kept_alloc hg)))
      | (refine ⟨trivial, ?_⟩; gi_at_call 61; refine (callsIn_wide.2 (hE.push _)).mono ?_; rintro e W9 ⟨⟨v, rfl⟩, hE, hg⟩; (first | have hG := grown_trans hG hg | have hG := grown_trans hG (kept_alloc hg))))
    go_end0
    exact ⟨⟨_, rfl⟩, hE, hG⟩
theorem simple_5 {w0 : World} {l : List Gl} {W : World} {B : Nat} {m : Mch} {arg : Int} (h : Env w0 l B m W) :
    Calls Tryd.prog 30 #[.pointer (some ⟨B, 0, none⟩), insV 5 arg] W fun e W' => (∃ v, e = .returned v) ∧ Env w0 l B (pushS (popS m) (glyZ l (popV m)).y) W' ∧ W.grownBy W' (some B) := by
  have key := fun o => (h.alloc o).value 5 arg
  have hn : valZ m l 5 arg = none := rfl
  rw [hn] at key
  refine (callsIn_wide (n := 8)).1 ?_
  refine callsIn_of_wp Tryd.func30 rfl trivial ?_ rfl
  unfold insV at key ⊢
  simp only [Tryd.ntmps30, List.size_toArray, List.length_cons, List.length_nil, Nat.reduceAdd, Nat.reduceSub, Array.replicate_succ, Array.replicate_zero, List.push_toArray, List.append_toArray, List.nil_append, List.cons_append]
  gi_wp2_with (refine ⟨trivial, ?_⟩; gi_at_call 59; refine (callsIn_wide.2 (key _)).mono ?_; rintro e W1 ⟨rfl, h1, g1⟩)
  have n1 := World.alloc_heap_new W (.cells #[.int .i64 5, .int .i64 arg] 88)
  have hB1 : W.heap.size ≠ B := fun e => by have := h.hm.lt; omega
  have n2 := copy_kept n1 g1 hB1
  have c0 := copy_cell n2 0 rfl
  have g2 := kept_alloc g1
  clear key h n1 g1 hn
  have hop9 := fun W => operations_in W
  gi_region_with (refine ⟨trivial, ?_⟩; gi_at_call 60; refine (callsIn_wide.2 (hop9 _)).mono ?_; rintro e W3 ⟨rfl, hb3, hB3⟩; obtain ⟨zv, hzv⟩ := zero_fun W3; have hlk := run_lookup_none (P := Tryd.prog) 134 3 132 W1.heap.size _ _ 5 _ Tryd.underlying134 Tryd.underlying3 hb3 hzv (by rfl); have n3 := (hB3.block _ (show W.heap.size < W1.drew.heap.size from (Array.getElem?_eq_some_iff.1 n2).1)).trans n2; have c3 := copy_cell n3 0 rfl; have hE := h1.drew.grow hB3; have hG := grown_trans g2 (grown_trans (grown_drew ⟨rfl, rfl, rfl, Nat.le_refl _, fun _ _ _ => rfl⟩) (grown_below hB3 _)))
  all_goals
    have d0 := fun W9 (hg9 : W3.grownBy W9 (some B)) => copy_cell (copy_kept n3 hg9 hB1) 0 rfl
    clear hlk n2 h1 g2 hop9 c0 hzv hb3
    gi_wp2_with (first
      | (refine ⟨trivial, ?_⟩; gi_at_call 29; refine (callsIn_wide.2 hE.pop).mono ?_; rintro e W9 ⟨rfl, hE, hg⟩; have c9 := d0 _ hg; (first | have hG := grown_trans hG hg | have hG := grown_trans hG (kept_alloc hg)))
      | (refine ⟨trivial, ?_⟩; gi_at_call 63; refine (callsIn_wide.2 (hE.glyph _)).mono ?_; rintro e W9 ⟨rfl, hE, hg⟩; (first | have hG := grown_trans hG hg | have hG := grown_trans hG (kept_alloc hg)))
      | (refine ⟨trivial, ?_⟩; gi_at_call 61; refine (callsIn_wide.2 (hE.push _)).mono ?_; rintro e W9 ⟨⟨v, rfl⟩, hE, hg⟩; (first | have hG := grown_trans hG hg | have hG := grown_trans hG (kept_alloc hg)))
      | (refine ⟨trivial, ?_⟩; gi_at_call 61; refine (callsIn_wide.2 ((hE.alloc _).push _)).mono ?_; rintro e W9 ⟨⟨v, rfl⟩, hE, hg⟩; (first | have hG := grown_trans hG hg | have hG := grown_trans hG (kept_alloc hg))))
    go_end0
    exact ⟨⟨_, rfl⟩, hE, hG⟩
theorem simple_14 {w0 : World} {l : List Gl} {W : World} {B : Nat} {m : Mch} {arg : Int} (h : Env w0 l B m W) :
    Calls Tryd.prog 30 #[.pointer (some ⟨B, 0, none⟩), insV 14 arg] W fun e W' => (∃ v, e = .returned v) ∧ Env w0 l B (pushS (pushS (popS m) (popV m)) (popV m)) W' ∧ W.grownBy W' (some B) := by
  have key := fun o => (h.alloc o).value 14 arg
  have hn : valZ m l 14 arg = none := rfl
  rw [hn] at key
  refine (callsIn_wide (n := 8)).1 ?_
  refine callsIn_of_wp Tryd.func30 rfl trivial ?_ rfl
  unfold insV at key ⊢
  simp only [Tryd.ntmps30, List.size_toArray, List.length_cons, List.length_nil, Nat.reduceAdd, Nat.reduceSub, Array.replicate_succ, Array.replicate_zero, List.push_toArray, List.append_toArray, List.nil_append, List.cons_append]
  gi_wp2_with (refine ⟨trivial, ?_⟩; gi_at_call 59; refine (callsIn_wide.2 (key _)).mono ?_; rintro e W1 ⟨rfl, h1, g1⟩)
  have n1 := World.alloc_heap_new W (.cells #[.int .i64 14, .int .i64 arg] 88)
  have hB1 : W.heap.size ≠ B := fun e => by have := h.hm.lt; omega
  have n2 := copy_kept n1 g1 hB1
  have c0 := copy_cell n2 0 rfl
  have g2 := kept_alloc g1
  clear key h n1 g1 hn
  have hop9 := fun W => operations_in W
  gi_region_with (refine ⟨trivial, ?_⟩; gi_at_call 60; refine (callsIn_wide.2 (hop9 _)).mono ?_; rintro e W3 ⟨rfl, hb3, hB3⟩; obtain ⟨zv, hzv⟩ := zero_fun W3; have hlk := run_lookup_none (P := Tryd.prog) 134 3 132 W1.heap.size _ _ 14 _ Tryd.underlying134 Tryd.underlying3 hb3 hzv (by rfl); have n3 := (hB3.block _ (show W.heap.size < W1.drew.heap.size from (Array.getElem?_eq_some_iff.1 n2).1)).trans n2; have c3 := copy_cell n3 0 rfl; have hE := h1.drew.grow hB3; have hG := grown_trans g2 (grown_trans (grown_drew ⟨rfl, rfl, rfl, Nat.le_refl _, fun _ _ _ => rfl⟩) (grown_below hB3 _)))
  all_goals
    have d0 := fun W9 (hg9 : W3.grownBy W9 (some B)) => copy_cell (copy_kept n3 hg9 hB1) 0 rfl
    clear hlk n2 h1 g2 hop9 c0 hzv hb3
    gi_wp2_with (first
      | (refine ⟨trivial, ?_⟩; gi_at_call 29; refine (callsIn_wide.2 hE.pop).mono ?_; rintro e W9 ⟨rfl, hE, hg⟩; have c9 := d0 _ hg; (first | have hG := grown_trans hG hg | have hG := grown_trans hG (kept_alloc hg)))
      | (refine ⟨trivial, ?_⟩; gi_at_call 61; refine (callsIn_wide.2 (hE.push _)).mono ?_; rintro e W9 ⟨⟨v, rfl⟩, hE, hg⟩; (first | have hG := grown_trans hG hg | have hG := grown_trans hG (kept_alloc hg))))
    go_end0
    exact ⟨⟨_, rfl⟩, hE, hG⟩
theorem simple_15 {w0 : World} {l : List Gl} {W : World} {B : Nat} {m : Mch} {arg : Int} (h : Env w0 l B m W) :
    Calls Tryd.prog 30 #[.pointer (some ⟨B, 0, none⟩), insV 15 arg] W fun e W' => (∃ v, e = .returned v) ∧ Env w0 l B (popS m) W' ∧ W.grownBy W' (some B) := by
  have key := fun o => (h.alloc o).value 15 arg
  have hn : valZ m l 15 arg = none := rfl
  rw [hn] at key
  refine (callsIn_wide (n := 8)).1 ?_
  refine callsIn_of_wp Tryd.func30 rfl trivial ?_ rfl
  unfold insV at key ⊢
  simp only [Tryd.ntmps30, List.size_toArray, List.length_cons, List.length_nil, Nat.reduceAdd, Nat.reduceSub, Array.replicate_succ, Array.replicate_zero, List.push_toArray, List.append_toArray, List.nil_append, List.cons_append]
  gi_wp2_with (refine ⟨trivial, ?_⟩; gi_at_call 59; refine (callsIn_wide.2 (key _)).mono ?_; rintro e W1 ⟨rfl, h1, g1⟩)
  have n1 := World.alloc_heap_new W (.cells #[.int .i64 15, .int .i64 arg] 88)
  have hB1 : W.heap.size ≠ B := fun e => by have := h.hm.lt; omega
  have n2 := copy_kept n1 g1 hB1
  have c0 := copy_cell n2 0 rfl
  have g2 := kept_alloc g1
  clear key h n1 g1 hn
  have hop9 := fun W => operations_in W
  gi_region_with (refine ⟨trivial, ?_⟩; gi_at_call 60; refine (callsIn_wide.2 (hop9 _)).mono ?_; rintro e W3 ⟨rfl, hb3, hB3⟩; obtain ⟨zv, hzv⟩ := zero_fun W3; have hlk := run_lookup_none (P := Tryd.prog) 134 3 132 W1.heap.size _ _ 15 _ Tryd.underlying134 Tryd.underlying3 hb3 hzv (by rfl); have n3 := (hB3.block _ (show W.heap.size < W1.drew.heap.size from (Array.getElem?_eq_some_iff.1 n2).1)).trans n2; have c3 := copy_cell n3 0 rfl; have hE := h1.drew.grow hB3; have hG := grown_trans g2 (grown_trans (grown_drew ⟨rfl, rfl, rfl, Nat.le_refl _, fun _ _ _ => rfl⟩) (grown_below hB3 _)))
  all_goals
    have d0 := fun W9 (hg9 : W3.grownBy W9 (some B)) => copy_cell (copy_kept n3 hg9 hB1) 0 rfl
    clear hlk n2 h1 g2 hop9 c0 hzv hb3
    gi_wp2_with (first
      | (refine ⟨trivial, ?_⟩; gi_at_call 29; refine (callsIn_wide.2 hE.pop).mono ?_; rintro e W9 ⟨rfl, hE, hg⟩; have c9 := d0 _ hg; (first | have hG := grown_trans hG hg | have hG := grown_trans hG (kept_alloc hg))))
    go_end0
    exact ⟨⟨_, rfl⟩, hE, hG⟩
theorem simple_16 {w0 : World} {l : List Gl} {W : World} {B : Nat} {m : Mch} {arg : Int} (h : Env w0 l B m W) :
    Calls Tryd.prog 30 #[.pointer (some ⟨B, 0, none⟩), insV 16 arg] W fun e W' => (∃ v, e = .returned v) ∧ Env w0 l B (pushS (pushS (popS (popS m)) (popV m)) (popV (popS m))) W' ∧ W.grownBy W' (some B) := by
  have key := fun o => (h.alloc o).value 16 arg
  have hn : valZ m l 16 arg = none := rfl
  rw [hn] at key
  refine (callsIn_wide (n := 8)).1 ?_
  refine callsIn_of_wp Tryd.func30 rfl trivial ?_ rfl
  unfold insV at key ⊢
  simp only [Tryd.ntmps30, List.size_toArray, List.length_cons, List.length_nil, Nat.reduceAdd, Nat.reduceSub, Array.replicate_succ, Array.replicate_zero, List.push_toArray, List.append_toArray, List.nil_append, List.cons_append]
  gi_wp2_with (refine ⟨trivial, ?_⟩; gi_at_call 59; refine (callsIn_wide.2 (key _)).mono ?_; rintro e W1 ⟨rfl, h1, g1⟩)
  have n1 := World.alloc_heap_new W (.cells #[.int .i64 16, .int .i64 arg] 88)
  have hB1 : W.heap.size ≠ B := fun e => by have := h.hm.lt; omega
  have n2 := copy_kept n1 g1 hB1
  have c0 := copy_cell n2 0 rfl
  have g2 := kept_alloc g1
  clear key h n1 g1 hn
  have hop9 := fun W => operations_in W
  gi_region_with (refine ⟨trivial, ?_⟩; gi_at_call 60; refine (callsIn_wide.2 (hop9 _)).mono ?_; rintro e W3 ⟨rfl, hb3, hB3⟩; obtain ⟨zv, hzv⟩ := zero_fun W3; have hlk := run_lookup_none (P := Tryd.prog) 134 3 132 W1.heap.size _ _ 16 _ Tryd.underlying134 Tryd.underlying3 hb3 hzv (by rfl); have n3 := (hB3.block _ (show W.heap.size < W1.drew.heap.size from (Array.getElem?_eq_some_iff.1 n2).1)).trans n2; have c3 := copy_cell n3 0 rfl; have hE := h1.drew.grow hB3; have hG := grown_trans g2 (grown_trans (grown_drew ⟨rfl, rfl, rfl, Nat.le_refl _, fun _ _ _ => rfl⟩) (grown_below hB3 _)))
  all_goals
    have d0 := fun W9 (hg9 : W3.grownBy W9 (some B)) => copy_cell (copy_kept n3 hg9 hB1) 0 rfl
    clear hlk n2 h1 g2 hop9 c0 hzv hb3
    gi_wp2_with (first
      | (refine ⟨trivial, ?_⟩; gi_at_call 29; refine (callsIn_wide.2 hE.pop).mono ?_; rintro e W9 ⟨rfl, hE, hg⟩; have c9 := d0 _ hg; (first | have hG := grown_trans hG hg | have hG := grown_trans hG (kept_alloc hg)))
      | (refine ⟨trivial, ?_⟩; gi_at_call 29; refine (callsIn_wide.2 hE.pop).mono ?_; rintro e W9 ⟨rfl, hE, hg⟩; (first | have hG := grown_trans hG hg | have hG := grown_trans hG (kept_alloc hg)))
      | (refine ⟨trivial, ?_⟩; gi_at_call 61; refine (callsIn_wide.2 (hE.push _)).mono ?_; rintro e W9 ⟨⟨v, rfl⟩, hE, hg⟩; (first | have hG := grown_trans hG hg | have hG := grown_trans hG (kept_alloc hg))))
    go_end0
    exact ⟨⟨_, rfl⟩, hE, hG⟩
theorem simple_13 {w0 : World} {l : List Gl} {W : World} {B : Nat} {m : Mch} {arg : Int} (h : Env w0 l B m W) :
    Calls Tryd.prog 30 #[.pointer (some ⟨B, 0, none⟩), insV 13 arg] W fun e W' => (∃ v, e = .returned v) ∧ Env w0 l B (pushS (popS m) (if popV m = 0 then 1 else 0)) W' ∧ W.grownBy W' (some B) := by
  have key := fun o => (h.alloc o).value 13 arg
  have hn : valZ m l 13 arg = none := rfl
  rw [hn] at key
  refine (callsIn_wide (n := 8)).1 ?_
  refine callsIn_of_wp Tryd.func30 rfl trivial ?_ rfl
  unfold insV at key ⊢
  simp only [Tryd.ntmps30, List.size_toArray, List.length_cons, List.length_nil, Nat.reduceAdd, Nat.reduceSub, Array.replicate_succ, Array.replicate_zero, List.push_toArray, List.append_toArray, List.nil_append, List.cons_append]
  gi_wp2_with (refine ⟨trivial, ?_⟩; gi_at_call 59; refine (callsIn_wide.2 (key _)).mono ?_; rintro e W1 ⟨rfl, h1, g1⟩)
  have n1 := World.alloc_heap_new W (.cells #[.int .i64 13, .int .i64 arg] 88)
  have hB1 : W.heap.size ≠ B := fun e => by have := h.hm.lt; omega
  have n2 := copy_kept n1 g1 hB1
  have c0 := copy_cell n2 0 rfl
  have g2 := kept_alloc g1
  clear key h n1 g1 hn
  have hop9 := fun W => operations_in W
  gi_region_with (refine ⟨trivial, ?_⟩; gi_at_call 60; refine (callsIn_wide.2 (hop9 _)).mono ?_; rintro e W3 ⟨rfl, hb3, hB3⟩; obtain ⟨zv, hzv⟩ := zero_fun W3; have hlk := run_lookup_none (P := Tryd.prog) 134 3 132 W1.heap.size _ _ 13 _ Tryd.underlying134 Tryd.underlying3 hb3 hzv (by rfl); have n3 := (hB3.block _ (show W.heap.size < W1.drew.heap.size from (Array.getElem?_eq_some_iff.1 n2).1)).trans n2; have c3 := copy_cell n3 0 rfl; have hE := h1.drew.grow hB3; have hG := grown_trans g2 (grown_trans (grown_drew ⟨rfl, rfl, rfl, Nat.le_refl _, fun _ _ _ => rfl⟩) (grown_below hB3 _)))
  all_goals
    have d0 := fun W9 (hg9 : W3.grownBy W9 (some B)) => copy_cell (copy_kept n3 hg9 hB1) 0 rfl
    clear hlk n2 h1 g2 hop9 c0 hzv hb3
    gi_wp2_with (first
      | (refine ⟨trivial, ?_⟩; gi_at_call 29; refine (callsIn_wide.2 hE.pop).mono ?_; rintro e W9 ⟨rfl, hE, hg⟩; have c9 := d0 _ hg; (first | have hG := grown_trans hG hg | have hG := grown_trans hG (kept_alloc hg)))
      | (refine ⟨trivial, ?_⟩; gi_at_call 64; refine (callsIn_wide.2 (truth_in _ _)).mono ?_; rintro e w9 ⟨rfl, rfl⟩)
      | (refine ⟨trivial, ?_⟩; gi_at_call 61; refine (callsIn_wide.2 (hE.push _)).mono ?_; rintro e W9 ⟨⟨v, rfl⟩, hE, hg⟩; (first | have hG := grown_trans hG hg | have hG := grown_trans hG (kept_alloc hg))))
    all_goals go_end0
    all_goals first
      | (rw [if_pos (show popV m = 0 by assumption)] at hE; exact ⟨⟨_, rfl⟩, hE, hG⟩)
      | (rw [if_neg (show ¬ popV m = 0 by assumption)] at hE; exact ⟨⟨_, rfl⟩, hE, hG⟩)
theorem simple_19 {w0 : World} {l : List Gl} {W : World} {B : Nat} {m : Mch} {arg : Int} (h : Env w0 l B m W) (q1 : 1 ≤ popV m) (q2 : popV m ≤ 3) :
    Calls Tryd.prog 30 #[.pointer (some ⟨B, 0, none⟩), insV 19 arg] W fun e W' => (∃ v, e = .returned v) ∧ Env w0 l B ({ popS m with cls := popV m }) W' ∧ W.grownBy W' (some B) := by
  have key := fun o => (h.alloc o).value 19 arg
  have hn : valZ m l 19 arg = none := rfl
  rw [hn] at key
  refine (callsIn_wide (n := 8)).1 ?_
  refine callsIn_of_wp Tryd.func30 rfl trivial ?_ rfl
  unfold insV at key ⊢
  simp only [Tryd.ntmps30, List.size_toArray, List.length_cons, List.length_nil, Nat.reduceAdd, Nat.reduceSub, Array.replicate_succ, Array.replicate_zero, List.push_toArray, List.append_toArray, List.nil_append, List.cons_append]
  gi_wp2_with (refine ⟨trivial, ?_⟩; gi_at_call 59; refine (callsIn_wide.2 (key _)).mono ?_; rintro e W1 ⟨rfl, h1, g1⟩)
  have n1 := World.alloc_heap_new W (.cells #[.int .i64 19, .int .i64 arg] 88)
  have hB1 : W.heap.size ≠ B := fun e => by have := h.hm.lt; omega
  have n2 := copy_kept n1 g1 hB1
  have c0 := copy_cell n2 0 rfl
  have g2 := kept_alloc g1
  clear key h n1 g1 hn
  have hop9 := fun W => operations_in W
  gi_region_with (refine ⟨trivial, ?_⟩; gi_at_call 60; refine (callsIn_wide.2 (hop9 _)).mono ?_; rintro e W3 ⟨rfl, hb3, hB3⟩; obtain ⟨zv, hzv⟩ := zero_fun W3; have hlk := run_lookup_none (P := Tryd.prog) 134 3 132 W1.heap.size _ _ 19 _ Tryd.underlying134 Tryd.underlying3 hb3 hzv (by rfl); have n3 := (hB3.block _ (show W.heap.size < W1.drew.heap.size from (Array.getElem?_eq_some_iff.1 n2).1)).trans n2; have c3 := copy_cell n3 0 rfl; have hE := h1.drew.grow hB3; have hG := grown_trans g2 (grown_trans (grown_drew ⟨rfl, rfl, rfl, Nat.le_refl _, fun _ _ _ => rfl⟩) (grown_below hB3 _)))
  all_goals
    have d0 := fun W9 (hg9 : W3.grownBy W9 (some B)) => copy_cell (copy_kept n3 hg9 hB1) 0 rfl
    clear hlk n2 h1 g2 hop9 c0 hzv hb3
    gi_wp2_with (first
      | (refine ⟨trivial, ?_⟩; gi_at_call 29; refine (callsIn_wide.2 hE.pop).mono ?_; rintro e W9 ⟨rfl, hE, hg⟩; have c9 := d0 _ hg; (first | have hG := grown_trans hG hg | have hG := grown_trans hG (kept_alloc hg)); have c2 := hE.hm.cell 2 (v := .int .i64 (popS m).cls) rfl; have c3 := hE.hm.cell 3 (v := .int .i64 (popS m).wt) rfl; have f2 := hE.hm.frozen 2; have f3 := hE.hm.frozen 3))
    go_end0
    exact ⟨⟨_, rfl⟩, hE.step (hE.hm.put (m' := { popS m with cls := popV m }) 2 (.int .i64 (popV m)) rfl hE.hm.s hE.hm.d) rfl (grown_put _ _ _ _), grown_trans hG (grown_put _ _ _ _)⟩
theorem simple_19n {w0 : World} {l : List Gl} {W : World} {B : Nat} {m : Mch} {arg : Int} (h : Env w0 l B m W) (q1 : ¬ 1 ≤ popV m) :
    Calls Tryd.prog 30 #[.pointer (some ⟨B, 0, none⟩), insV 19 arg] W fun e W' => (∃ v, e = .returned v) ∧ Env w0 l B (popS m) W' ∧ W.grownBy W' (some B) := by
  have key := fun o => (h.alloc o).value 19 arg
  have hn : valZ m l 19 arg = none := rfl
  rw [hn] at key
  refine (callsIn_wide (n := 8)).1 ?_
  refine callsIn_of_wp Tryd.func30 rfl trivial ?_ rfl
  unfold insV at key ⊢
  simp only [Tryd.ntmps30, List.size_toArray, List.length_cons, List.length_nil, Nat.reduceAdd, Nat.reduceSub, Array.replicate_succ, Array.replicate_zero, List.push_toArray, List.append_toArray, List.nil_append, List.cons_append]
  gi_wp2_with (refine ⟨trivial, ?_⟩; gi_at_call 59; refine (callsIn_wide.2 (key _)).mono ?_; rintro e W1 ⟨rfl, h1, g1⟩)
  have n1 := World.alloc_heap_new W (.cells #[.int .i64 19, .int .i64 arg] 88)
  have hB1 : W.heap.size ≠ B := fun e => by have := h.hm.lt; omega
  have n2 := copy_kept n1 g1 hB1
  have c0 := copy_cell n2 0 rfl
  have g2 := kept_alloc g1
  clear key h n1 g1 hn
  have hop9 := fun W => operations_in W
  gi_region_with (refine ⟨trivial, ?_⟩; gi_at_call 60; refine (callsIn_wide.2 (hop9 _)).mono ?_; rintro e W3 ⟨rfl, hb3, hB3⟩; obtain ⟨zv, hzv⟩ := zero_fun W3; have hlk := run_lookup_none (P := Tryd.prog) 134 3 132 W1.heap.size _ _ 19 _ Tryd.underlying134 Tryd.underlying3 hb3 hzv (by rfl); have n3 := (hB3.block _ (show W.heap.size < W1.drew.heap.size from (Array.getElem?_eq_some_iff.1 n2).1)).trans n2; have c3 := copy_cell n3 0 rfl; have hE := h1.drew.grow hB3; have hG := grown_trans g2 (grown_trans (grown_drew ⟨rfl, rfl, rfl, Nat.le_refl _, fun _ _ _ => rfl⟩) (grown_below hB3 _)))
  all_goals
    have d0 := fun W9 (hg9 : W3.grownBy W9 (some B)) => copy_cell (copy_kept n3 hg9 hB1) 0 rfl
    clear hlk n2 h1 g2 hop9 c0 hzv hb3
    gi_wp2_with (first
      | (refine ⟨trivial, ?_⟩; gi_at_call 29; refine (callsIn_wide.2 hE.pop).mono ?_; rintro e W9 ⟨rfl, hE, hg⟩; have c9 := d0 _ hg; (first | have hG := grown_trans hG hg | have hG := grown_trans hG (kept_alloc hg)); have c2 := hE.hm.cell 2 (v := .int .i64 (popS m).cls) rfl; have c3 := hE.hm.cell 3 (v := .int .i64 (popS m).wt) rfl; have f2 := hE.hm.frozen 2; have f3 := hE.hm.frozen 3))
    go_end0
    exact ⟨⟨_, rfl⟩, hE, hG⟩
theorem simple_19m {w0 : World} {l : List Gl} {W : World} {B : Nat} {m : Mch} {arg : Int} (h : Env w0 l B m W) (q1 : 1 ≤ popV m) (q2 : ¬ popV m ≤ 3) :
    Calls Tryd.prog 30 #[.pointer (some ⟨B, 0, none⟩), insV 19 arg] W fun e W' => (∃ v, e = .returned v) ∧ Env w0 l B (popS m) W' ∧ W.grownBy W' (some B) := by
  have key := fun o => (h.alloc o).value 19 arg
  have hn : valZ m l 19 arg = none := rfl
  rw [hn] at key
  refine (callsIn_wide (n := 8)).1 ?_
  refine callsIn_of_wp Tryd.func30 rfl trivial ?_ rfl
  unfold insV at key ⊢
  simp only [Tryd.ntmps30, List.size_toArray, List.length_cons, List.length_nil, Nat.reduceAdd, Nat.reduceSub, Array.replicate_succ, Array.replicate_zero, List.push_toArray, List.append_toArray, List.nil_append, List.cons_append]
  gi_wp2_with (refine ⟨trivial, ?_⟩; gi_at_call 59; refine (callsIn_wide.2 (key _)).mono ?_; rintro e W1 ⟨rfl, h1, g1⟩)
  have n1 := World.alloc_heap_new W (.cells #[.int .i64 19, .int .i64 arg] 88)
  have hB1 : W.heap.size ≠ B := fun e => by have := h.hm.lt; omega
  have n2 := copy_kept n1 g1 hB1
  have c0 := copy_cell n2 0 rfl
  have g2 := kept_alloc g1
  clear key h n1 g1 hn
  have hop9 := fun W => operations_in W
  gi_region_with (refine ⟨trivial, ?_⟩; gi_at_call 60; refine (callsIn_wide.2 (hop9 _)).mono ?_; rintro e W3 ⟨rfl, hb3, hB3⟩; obtain ⟨zv, hzv⟩ := zero_fun W3; have hlk := run_lookup_none (P := Tryd.prog) 134 3 132 W1.heap.size _ _ 19 _ Tryd.underlying134 Tryd.underlying3 hb3 hzv (by rfl); have n3 := (hB3.block _ (show W.heap.size < W1.drew.heap.size from (Array.getElem?_eq_some_iff.1 n2).1)).trans n2; have c3 := copy_cell n3 0 rfl; have hE := h1.drew.grow hB3; have hG := grown_trans g2 (grown_trans (grown_drew ⟨rfl, rfl, rfl, Nat.le_refl _, fun _ _ _ => rfl⟩) (grown_below hB3 _)))
  all_goals
    have d0 := fun W9 (hg9 : W3.grownBy W9 (some B)) => copy_cell (copy_kept n3 hg9 hB1) 0 rfl
    clear hlk n2 h1 g2 hop9 c0 hzv hb3
    gi_wp2_with (first
      | (refine ⟨trivial, ?_⟩; gi_at_call 29; refine (callsIn_wide.2 hE.pop).mono ?_; rintro e W9 ⟨rfl, hE, hg⟩; have c9 := d0 _ hg; (first | have hG := grown_trans hG hg | have hG := grown_trans hG (kept_alloc hg)); have c2 := hE.hm.cell 2 (v := .int .i64 (popS m).cls) rfl; have c3 := hE.hm.cell 3 (v := .int .i64 (popS m).wt) rfl; have f2 := hE.hm.frozen 2; have f3 := hE.hm.frozen 3))
    go_end0
    exact ⟨⟨_, rfl⟩, hE, hG⟩
theorem simple_20 {w0 : World} {l : List Gl} {W : World} {B : Nat} {m : Mch} {arg : Int} (h : Env w0 l B m W) (q1 : 0 ≤ popV m) (q2 : popV m ≤ 60000) :
    Calls Tryd.prog 30 #[.pointer (some ⟨B, 0, none⟩), insV 20 arg] W fun e W' => (∃ v, e = .returned v) ∧ Env w0 l B ({ popS m with wt := popV m }) W' ∧ W.grownBy W' (some B) := by
  have key := fun o => (h.alloc o).value 20 arg
  have hn : valZ m l 20 arg = none := rfl
  rw [hn] at key
  refine (callsIn_wide (n := 8)).1 ?_
  refine callsIn_of_wp Tryd.func30 rfl trivial ?_ rfl
  unfold insV at key ⊢
  simp only [Tryd.ntmps30, List.size_toArray, List.length_cons, List.length_nil, Nat.reduceAdd, Nat.reduceSub, Array.replicate_succ, Array.replicate_zero, List.push_toArray, List.append_toArray, List.nil_append, List.cons_append]
  gi_wp2_with (refine ⟨trivial, ?_⟩; gi_at_call 59; refine (callsIn_wide.2 (key _)).mono ?_; rintro e W1 ⟨rfl, h1, g1⟩)
  have n1 := World.alloc_heap_new W (.cells #[.int .i64 20, .int .i64 arg] 88)
  have hB1 : W.heap.size ≠ B := fun e => by have := h.hm.lt; omega
  have n2 := copy_kept n1 g1 hB1
  have c0 := copy_cell n2 0 rfl
  have g2 := kept_alloc g1
  clear key h n1 g1 hn
  have hop9 := fun W => operations_in W
  gi_region_with (refine ⟨trivial, ?_⟩; gi_at_call 60; refine (callsIn_wide.2 (hop9 _)).mono ?_; rintro e W3 ⟨rfl, hb3, hB3⟩; obtain ⟨zv, hzv⟩ := zero_fun W3; have hlk := run_lookup_none (P := Tryd.prog) 134 3 132 W1.heap.size _ _ 20 _ Tryd.underlying134 Tryd.underlying3 hb3 hzv (by rfl); have n3 := (hB3.block _ (show W.heap.size < W1.drew.heap.size from (Array.getElem?_eq_some_iff.1 n2).1)).trans n2; have c3 := copy_cell n3 0 rfl; have hE := h1.drew.grow hB3; have hG := grown_trans g2 (grown_trans (grown_drew ⟨rfl, rfl, rfl, Nat.le_refl _, fun _ _ _ => rfl⟩) (grown_below hB3 _)))
  all_goals
    have d0 := fun W9 (hg9 : W3.grownBy W9 (some B)) => copy_cell (copy_kept n3 hg9 hB1) 0 rfl
    clear hlk n2 h1 g2 hop9 c0 hzv hb3
    gi_wp2_with (first
      | (refine ⟨trivial, ?_⟩; gi_at_call 29; refine (callsIn_wide.2 hE.pop).mono ?_; rintro e W9 ⟨rfl, hE, hg⟩; have c9 := d0 _ hg; (first | have hG := grown_trans hG hg | have hG := grown_trans hG (kept_alloc hg)); have c2 := hE.hm.cell 2 (v := .int .i64 (popS m).cls) rfl; have c3 := hE.hm.cell 3 (v := .int .i64 (popS m).wt) rfl; have f2 := hE.hm.frozen 2; have f3 := hE.hm.frozen 3))
    go_end0
    exact ⟨⟨_, rfl⟩, hE.step (hE.hm.put (m' := { popS m with wt := popV m }) 3 (.int .i64 (popV m)) rfl hE.hm.s hE.hm.d) rfl (grown_put _ _ _ _), grown_trans hG (grown_put _ _ _ _)⟩
theorem simple_20n {w0 : World} {l : List Gl} {W : World} {B : Nat} {m : Mch} {arg : Int} (h : Env w0 l B m W) (q1 : ¬ 0 ≤ popV m) :
    Calls Tryd.prog 30 #[.pointer (some ⟨B, 0, none⟩), insV 20 arg] W fun e W' => (∃ v, e = .returned v) ∧ Env w0 l B (popS m) W' ∧ W.grownBy W' (some B) := by
  have key := fun o => (h.alloc o).value 20 arg
  have hn : valZ m l 20 arg = none := rfl
  rw [hn] at key
  refine (callsIn_wide (n := 8)).1 ?_
  refine callsIn_of_wp Tryd.func30 rfl trivial ?_ rfl
  unfold insV at key ⊢
  simp only [Tryd.ntmps30, List.size_toArray, List.length_cons, List.length_nil, Nat.reduceAdd, Nat.reduceSub, Array.replicate_succ, Array.replicate_zero, List.push_toArray, List.append_toArray, List.nil_append, List.cons_append]
  gi_wp2_with (refine ⟨trivial, ?_⟩; gi_at_call 59; refine (callsIn_wide.2 (key _)).mono ?_; rintro e W1 ⟨rfl, h1, g1⟩)
  have n1 := World.alloc_heap_new W (.cells #[.int .i64 20, .int .i64 arg] 88)
  have hB1 : W.heap.size ≠ B := fun e => by have := h.hm.lt; omega
  have n2 := copy_kept n1 g1 hB1
  have c0 := copy_cell n2 0 rfl
  have g2 := kept_alloc g1
  clear key h n1 g1 hn
  have hop9 := fun W => operations_in W
  gi_region_with (refine ⟨trivial, ?_⟩; gi_at_call 60; refine (callsIn_wide.2 (hop9 _)).mono ?_; rintro e W3 ⟨rfl, hb3, hB3⟩; obtain ⟨zv, hzv⟩ := zero_fun W3; have hlk := run_lookup_none (P := Tryd.prog) 134 3 132 W1.heap.size _ _ 20 _ Tryd.underlying134 Tryd.underlying3 hb3 hzv (by rfl); have n3 := (hB3.block _ (show W.heap.size < W1.drew.heap.size from (Array.getElem?_eq_some_iff.1 n2).1)).trans n2; have c3 := copy_cell n3 0 rfl; have hE := h1.drew.grow hB3; have hG := grown_trans g2 (grown_trans (grown_drew ⟨rfl, rfl, rfl, Nat.le_refl _, fun _ _ _ => rfl⟩) (grown_below hB3 _)))
  all_goals
    have d0 := fun W9 (hg9 : W3.grownBy W9 (some B)) => copy_cell (copy_kept n3 hg9 hB1) 0 rfl
    clear hlk n2 h1 g2 hop9 c0 hzv hb3
    gi_wp2_with (first
      | (refine ⟨trivial, ?_⟩; gi_at_call 29; refine (callsIn_wide.2 hE.pop).mono ?_; rintro e W9 ⟨rfl, hE, hg⟩; have c9 := d0 _ hg; (first | have hG := grown_trans hG hg | have hG := grown_trans hG (kept_alloc hg)); have c2 := hE.hm.cell 2 (v := .int .i64 (popS m).cls) rfl; have c3 := hE.hm.cell 3 (v := .int .i64 (popS m).wt) rfl; have f2 := hE.hm.frozen 2; have f3 := hE.hm.frozen 3))
    go_end0
    exact ⟨⟨_, rfl⟩, hE, hG⟩
theorem simple_20m {w0 : World} {l : List Gl} {W : World} {B : Nat} {m : Mch} {arg : Int} (h : Env w0 l B m W) (q1 : 0 ≤ popV m) (q2 : ¬ popV m ≤ 60000) :
    Calls Tryd.prog 30 #[.pointer (some ⟨B, 0, none⟩), insV 20 arg] W fun e W' => (∃ v, e = .returned v) ∧ Env w0 l B (popS m) W' ∧ W.grownBy W' (some B) := by
  have key := fun o => (h.alloc o).value 20 arg
  have hn : valZ m l 20 arg = none := rfl
  rw [hn] at key
  refine (callsIn_wide (n := 8)).1 ?_
  refine callsIn_of_wp Tryd.func30 rfl trivial ?_ rfl
  unfold insV at key ⊢
  simp only [Tryd.ntmps30, List.size_toArray, List.length_cons, List.length_nil, Nat.reduceAdd, Nat.reduceSub, Array.replicate_succ, Array.replicate_zero, List.push_toArray, List.append_toArray, List.nil_append, List.cons_append]
  gi_wp2_with (refine ⟨trivial, ?_⟩; gi_at_call 59; refine (callsIn_wide.2 (key _)).mono ?_; rintro e W1 ⟨rfl, h1, g1⟩)
  have n1 := World.alloc_heap_new W (.cells #[.int .i64 20, .int .i64 arg] 88)
  have hB1 : W.heap.size ≠ B := fun e => by have := h.hm.lt; omega
  have n2 := copy_kept n1 g1 hB1
  have c0 := copy_cell n2 0 rfl
  have g2 := kept_alloc g1
  clear key h n1 g1 hn
  have hop9 := fun W => operations_in W
  gi_region_with (refine ⟨trivial, ?_⟩; gi_at_call 60; refine (callsIn_wide.2 (hop9 _)).mono ?_; rintro e W3 ⟨rfl, hb3, hB3⟩; obtain ⟨zv, hzv⟩ := zero_fun W3; have hlk := run_lookup_none (P := Tryd.prog) 134 3 132 W1.heap.size _ _ 20 _ Tryd.underlying134 Tryd.underlying3 hb3 hzv (by rfl); have n3 := (hB3.block _ (show W.heap.size < W1.drew.heap.size from (Array.getElem?_eq_some_iff.1 n2).1)).trans n2; have c3 := copy_cell n3 0 rfl; have hE := h1.drew.grow hB3; have hG := grown_trans g2 (grown_trans (grown_drew ⟨rfl, rfl, rfl, Nat.le_refl _, fun _ _ _ => rfl⟩) (grown_below hB3 _)))
  all_goals
    have d0 := fun W9 (hg9 : W3.grownBy W9 (some B)) => copy_cell (copy_kept n3 hg9 hB1) 0 rfl
    clear hlk n2 h1 g2 hop9 c0 hzv hb3
    gi_wp2_with (first
      | (refine ⟨trivial, ?_⟩; gi_at_call 29; refine (callsIn_wide.2 hE.pop).mono ?_; rintro e W9 ⟨rfl, hE, hg⟩; have c9 := d0 _ hg; (first | have hG := grown_trans hG hg | have hG := grown_trans hG (kept_alloc hg)); have c2 := hE.hm.cell 2 (v := .int .i64 (popS m).cls) rfl; have c3 := hE.hm.cell 3 (v := .int .i64 (popS m).wt) rfl; have f2 := hE.hm.frozen 2; have f3 := hE.hm.frozen 3))
    go_end0
    exact ⟨⟨_, rfl⟩, hE, hG⟩
theorem simple_in {w0 : World} {l : List Gl} {W : World} {B : Nat} {m : Mch} {op arg : Int} (h : Env w0 l B m W) (h0 : 1 ≤ op) (h1 : op ≤ 20) (h2 : ¬ op = 17) (h3 : ¬ op = 18) :
    Calls Tryd.prog 30 #[.pointer (some ⟨B, 0, none⟩), insV op arg] W fun e W' => (∃ v, e = .returned v) ∧ Env w0 l B (simS m l op arg) W' ∧ W.grownBy W' (some B) := by
  cases hv : valZ m l op arg with
  | some z => exact simple_val h (by rw [hv]; rfl)
  | none =>
    have hne : ¬ op = 1 ∧ ¬ op = 2 ∧ ¬ op = 3 ∧ ¬ op = 6 ∧ ¬ op = 7 := by
      refine ⟨?_, ?_, ?_, ?_, ?_⟩ <;> (rintro rfl; simp [valZ] at hv)
    unfold simS
    rw [hv]
    dsimp only
    by_cases hb : 8 ≤ op ∧ op ≤ 12
    · rw [if_pos hb]
      rcases (show op = 8 ∨ op = 9 ∨ op = 10 ∨ op = 11 ∨ op = 12 by omega) with rfl | rfl | rfl | rfl | rfl
      · exact simple_bin h 8 _ (by simp [opsL]) op1_in
      · exact simple_bin h 9 _ (by simp [opsL]) op2_in
      · exact simple_bin h 10 _ (by simp [opsL]) op3_in
      · exact simple_bin h 11 _ (by simp [opsL]) op4_in
      · exact simple_bin h 12 _ (by simp [opsL]) op5_in
    · rw [if_neg hb]
      rcases (show op = 4 ∨ op = 5 ∨ op = 13 ∨ op = 14 ∨ op = 15 ∨ op = 16 ∨ op = 19 ∨ op = 20 by omega) with rfl | rfl | rfl | rfl | rfl | rfl | rfl | rfl
      · exact simple_4 h
      · exact simple_5 h
      · exact simple_13 h
      · exact simple_14 h
      · exact simple_15 h
      · exact simple_16 h
      · show Calls _ _ _ _ fun e W' => _ ∧ Env w0 l B (if 1 ≤ popV m ∧ popV m ≤ 3 then { popS m with cls := popV m } else popS m) W' ∧ _
        by_cases q1 : 1 ≤ popV m
        · by_cases q2 : popV m ≤ 3
          · rw [if_pos ⟨q1, q2⟩]; exact simple_19 h q1 q2
          · rw [if_neg (fun hh => q2 hh.2)]; exact simple_19m h q1 q2
        · rw [if_neg (fun hh => q1 hh.1)]; exact simple_19n h q1
      · show Calls _ _ _ _ fun e W' => _ ∧ Env w0 l B (if 0 ≤ popV m ∧ popV m ≤ 60000 then { popS m with wt := popV m } else popS m) W' ∧ _
        by_cases q1 : 0 ≤ popV m
        · by_cases q2 : popV m ≤ 60000
          · rw [if_pos ⟨q1, q2⟩]; exact simple_20 h q1 q2
          · rw [if_neg (fun hh => q2 hh.2)]; exact simple_20m h q1 q2
        · rw [if_neg (fun hh => q1 hh.1)]; exact simple_20n h q1
end
end Go.Proofs.YtlhagkbhojmjpaaDoor
