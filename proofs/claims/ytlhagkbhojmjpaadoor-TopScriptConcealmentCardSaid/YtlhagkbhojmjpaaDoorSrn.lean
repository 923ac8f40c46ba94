/- scriptvm.Run, walked by hand. -/
import Derived.Test.YtlhagkbhojmjpaaDoorSpl
import Derived.Test.YtlhagkbhojmjpaaDoorSvp
namespace Go.Proofs.YtlhagkbhojmjpaaDoor
set_option linter.unusedSimpArgs false
set_option linter.unusedVariables false
section
open Go.RowKit Go.Shelf

def stepX (l : List Ins) (gs : List Gl) (x : Ins) (i : Nat) (m : Mch) : Nat × Mch :=
  if x.1 = 0 then (l.length, m) else if x.1 = 17 then (x.2.toNat, m) else if x.1 = 18 then (if popV m = 0 then x.2.toNat else i, popS m) else (i, simS m gs x.1 x.2)
structure OutR where
  c : Int
  w : Int
  s : Nat
  e : Int
def runZ (l : List Ins) (gs : List Gl) (c0 w0 : Int) (fuel : Int) : Nat → Nat → Nat → Mch → OutR
  | 0, _, s, m => ⟨m.cls, m.wt, s, 0⟩
  | g + 1, i, s, m => if i < l.length then (if (s : Int) = fuel then ⟨c0, w0, s, 14⟩ else if (stepX l gs (xx l i) (i + 1) m).2.fl = true then ⟨c0, w0, s + 1, 13⟩ else runZ l gs c0 w0 fuel g (stepX l gs (xx l i) (i + 1) m).1 (s + 1) (stepX l gs (xx l i) (i + 1) m).2) else ⟨m.cls, m.wt, s, 0⟩
def m0 (row : Int) (gv : Value) (cls wt rul : Int) : Mch := ⟨row, gv, cls, wt, rul, List.replicate 16 0, 0, false⟩
def outZ (l : List Ins) (gs : List Gl) (row : Int) (cls wt rul fuel : Int) (gv : Value) : OutR :=
  if chkS l = 0 then runZ l gs cls wt (max 0 (min fuel 5000)) l.length 0 0 (m0 row gv cls wt rul) else ⟨cls, wt, 0, chkS l⟩
def outV (rul : Int) (o : OutR) : Value := .agg #[.int .i64 o.c, .int .i64 o.w, .int .i64 rul, .int .i64 (o.s : Nat), .int .i64 o.e]
theorem popS_rul (m : Mch) : (popS m).rul = m.rul := by unfold popS; split <;> rfl
theorem qnw (m : Mch) (z : Int) : (pushS m z).rul = m.rul := by unfold pushS; split <;> rfl
theorem simS_rul (m : Mch) (gs : List Gl) (op arg : Int) : (simS m gs op arg).rul = m.rul := by
  unfold simS
  split
  · exact qnw _ _
  · split
    · unfold binS; rw [qnw, popS_rul, popS_rul]
    · unfold unS
      repeat' split
      all_goals simp only [qnw, popS_rul]
def IRow (l : List Ins) (v : Value) (W : World) : Prop := l.length ≤ 1000000 ∧ ((l.length = 0 ∧ ∃ a cap, v = .slice a 0 cap) ∨ ∃ b off cap, v = .slice (some ⟨b, off, none⟩) l.length cap ∧ b < W.heap.size ∧ ∀ i, i < l.length → W.cell? ⟨b, off + i * 2, none⟩ = some (.int .i64 (xx l i).1) ∧ W.cell? ⟨b, off + i * 2 + 1, none⟩ = some (.int .i64 (xx l i).2))
theorem IRow.val {l : List Ins} {v : Value} {W : World} (h : IRow l v W) : ∃ a cap, v = .slice a l.length cap := by
  rcases h.2 with ⟨h0, a, cap, e⟩ | ⟨b, off, cap, e, _⟩
  · exact ⟨a, cap, by rw [h0]; exact e⟩
  · exact ⟨_, cap, e⟩
theorem put5 {W : World} {b : Nat} {T : TypeId} {a0 a1 a2 a3 a4 : Value} (h : W.heap[b]? = some (.cells #[a0, a1, a2, a3, a4] T (0, 0))) (x0 x1 x2 x3 x4 : Value) :
    (((((W.setCell ⟨b, 0, none⟩ x0).setCell ⟨b, 1, none⟩ x1).setCell ⟨b, 2, none⟩ x2).setCell ⟨b, 3, none⟩ x3).setCell ⟨b, 4, none⟩ x4).heap[b]? = some (.cells #[x0, x1, x2, x3, x4] T (0, 0)) :=
  heap_put (heap_put (heap_put (heap_put (heap_put h 0 x0) 1 x1) 2 x2) 3 x3) 4 x4
theorem below5 {w W : World} {b : Nat} (h : Below w.heap.size w W) (hb : w.heap.size ≤ b) (x0 x1 x2 x3 x4 : Value) :
    Below w.heap.size w (((((W.setCell ⟨b, 0, none⟩ x0).setCell ⟨b, 1, none⟩ x1).setCell ⟨b, 2, none⟩ x2).setCell ⟨b, 3, none⟩ x3).setCell ⟨b, 4, none⟩ x4) :=
  ((((h.setCell (p := ⟨b, 0, none⟩) hb x0).setCell (p := ⟨b, 1, none⟩) hb x1).setCell (p := ⟨b, 2, none⟩) hb x2).setCell (p := ⟨b, 3, none⟩) hb x3).setCell (p := ⟨b, 4, none⟩) hb x4
theorem qnx {W : World} {N : Nat} {cs : Array Value} {t : TypeId} (h : W.heap[N]? = some (.cells cs t (0, 0))) (i : Nat) : W.frozen? ⟨N, i, none⟩ = false := by simp [World.frozen?, h]
theorem results10 {W : World} {b : Nat} {x0 x1 x2 x3 x4 : Value} (h : W.heap[b]? = some (.cells #[x0, x1, x2, x3, x4] 33 (0, 0))) {tmps : Array Value} (ht : tmps.getD 10 undef = .pointer (some ⟨b, 0, none⟩)) : (results Tryd.f10 tmps).run Tryd.prog W = .ok (.agg #[x0, x1, x2, x3, x4]) W := by
  have r0 := copy_cell h 0 rfl
  have r1 := copy_cell h 1 rfl
  have r2 := copy_cell h 2 rfl
  have r3 := copy_cell h 3 rfl
  have r4 := copy_cell h 4 rfl
  simp at ht
  simp [results, Tryd.f10, go_sem, ht, r0, r1, r2, r3, r4]
theorem GRow.val {l : List Gl} {v : Value} {W : World} (h : GRow l v W) : ∃ a cap, v = .slice a l.length cap := by
  rcases h.2 with ⟨h0, a, cap, e⟩ | ⟨b, off, cap, e, _⟩
  · exact ⟨a, cap, by rw [h0]; exact e⟩
  · exact ⟨_, cap, e⟩
set_option maxRecDepth 100000 in
set_option maxHeartbeats 8000000 in
theorem run_in {w : World} (hG : GlobOk (mkEnv globT []) gtab w) (l : List Ins) (gs : List Gl) (lv gv : Value) (row cls wt rul fuel : Int) (hl : IRow l lv w) (hg : GRow gs gv w) (hgs : ∀ g ∈ gs, g.s.length ≤ 100000)
    (hCk : ∀ W, Below w.heap.size w W → Calls Tryd.prog 27 #[lv] W fun e w' => e = .returned (.int .i64 (chkS l)) ∧ Below W.heap.size W w') :
    Calls Tryd.prog 10 #[lv, .int .i64 row, gv, .agg #[.int .i64 cls, .int .i64 wt, .int .i64 rul], .int .i64 fuel] w fun e w' => e = .returned (outV rul (outZ l gs row cls wt rul fuel gv)) ∧ Below w.heap.size w w' := by
  obtain ⟨ga, gc, rfl⟩ := hg.val
  obtain ⟨la, lc, rfl⟩ := hl.val
  refine (callsIn_wide (n := 8)).1 ?_
  refine callsIn_of_wp Tryd.func10 rfl trivial ?_ rfl
  simp only [Tryd.ntmps10, List.size_toArray, List.length_cons, List.length_nil, Nat.reduceAdd, Nat.reduceSub, Array.replicate_succ, Array.replicate_zero, List.push_toArray, List.append_toArray, List.nil_append, List.cons_append]
  gi_wp2_with fail
  refine ⟨trivial, ?_⟩
  generalize hW0 : (w.alloc (.cells #[.int .i64 cls, .int .i64 wt, .int .i64 rul] 25)).alloc (.cells #[.int .i64 0, .int .i64 0, .int .i64 0, .int .i64 0, .int .i64 0] 33) = W0
  have hB0 : Below w.heap.size w W0 := by rw [← hW0]; exact ((Below.refl _ w).alloc (by simp) _).alloc (by simp) _
  have h8 : W0.heap[w.heap.size]? = some (.cells #[.int .i64 cls, .int .i64 wt, .int .i64 rul] 25 (0, 0)) := by rw [← hW0]; exact (Below.heap_alloc _ _ _ (by simp)).trans (World.alloc_heap_new w _)
  have h10 : W0.heap[w.heap.size + 1]? = some (.cells #[.int .i64 0, .int .i64 0, .int .i64 0, .int .i64 0, .int .i64 0] 33 (0, 0)) := by
    rw [← hW0]
    have := World.alloc_heap_new (w.alloc (.cells #[.int .i64 cls, .int .i64 wt, .int .i64 rul] 25)) (.cells #[.int .i64 0, .int .i64 0, .int .i64 0, .int .i64 0, .int .i64 0] 33)
    rwa [World.size_alloc] at this
  clear hW0
  refine (callsIn_wide.2 (hCk W0 hB0)).mono ?_
  rintro e W1 ⟨rfl, hb1⟩
  have hB1 := hB0.trans (hb1.mono hB0.size)
  have k8 := (hb1.block _ (Array.getElem?_eq_some_iff.1 h8).1).trans h8
  have k10 := (hb1.block _ (Array.getElem?_eq_some_iff.1 h10).1).trans h10
  have hs1 : w.heap.size + 1 < W1.heap.size := (Array.getElem?_eq_some_iff.1 k10).1
  clear h8 h10 hb1 hB0
  have v0 := copy_cell k8 0 rfl
  have v1 := copy_cell k8 1 rfl
  have v2 := copy_cell k8 2 rfl
  by_cases hc : chkS l = 0
  · have ho : outZ l gs row cls wt rul fuel (.slice ga gs.length gc) = runZ l gs cls wt (max 0 (min fuel 5000)) l.length 0 0 (m0 row (.slice ga gs.length gc) cls wt rul) := if_pos hc
    obtain ⟨hn5, hok⟩ := chkS_ok hc
    rw [hc]
    obtain ⟨fz, hfz⟩ : ∃ fz, max 0 (min fuel 5000) = fz := ⟨_, rfl⟩
    rw [hfz] at ho
    gi_wp2_with fail
    have hEm : Env w gs W1.heap.size (m0 row (.slice ga gs.length gc) cls wt rul) (W1.alloc (.cells #[.int .i64 row, .slice ga gs.length gc, .int .i64 cls, .int .i64 wt, .int .i64 rul, .int .i64 0, .int .i64 0, .int .i64 0, .int .i64 0, .int .i64 0, .int .i64 0, .int .i64 0, .int .i64 0, .int .i64 0, .int .i64 0, .int .i64 0, .int .i64 0, .int .i64 0, .int .i64 0, .int .i64 0, .int .i64 0, .int .i64 0, .bool false] 95)) :=
      ⟨hG, hB1.alloc hB1.size _, by omega, ⟨World.alloc_heap_new W1 _, rfl, by show 0 ≤ 16; omega⟩, hg, hgs⟩
    have j8 := (Below.heap_alloc W1 (.cells #[.int .i64 row, .slice ga gs.length gc, .int .i64 cls, .int .i64 wt, .int .i64 rul, .int .i64 0, .int .i64 0, .int .i64 0, .int .i64 0, .int .i64 0, .int .i64 0, .int .i64 0, .int .i64 0, .int .i64 0, .int .i64 0, .int .i64 0, .int .i64 0, .int .i64 0, .int .i64 0, .int .i64 0, .int .i64 0, .int .i64 0, .bool false] 95) w.heap.size (by omega)).trans k8
    have j10 := (Below.heap_alloc W1 (.cells #[.int .i64 row, .slice ga gs.length gc, .int .i64 cls, .int .i64 wt, .int .i64 rul, .int .i64 0, .int .i64 0, .int .i64 0, .int .i64 0, .int .i64 0, .int .i64 0, .int .i64 0, .int .i64 0, .int .i64 0, .int .i64 0, .int .i64 0, .int .i64 0, .int .i64 0, .int .i64 0, .int .i64 0, .int .i64 0, .int .i64 0, .bool false] 95) (w.heap.size + 1) (by omega)).trans k10
    gi_loopw [13, 14] (fun vs vi wr => ∃ (i s g : Nat) (m : Mch), vs = .int .i64 (s : Nat) ∧ vi = .int .i64 (i : Nat) ∧ Env w gs W1.heap.size m wr ∧ m.rul = rul ∧ m.fl = false ∧ wr.heap[w.heap.size]? = some (.cells #[.int .i64 cls, .int .i64 wt, .int .i64 rul] 25 (0, 0)) ∧
      wr.heap[w.heap.size + 1]? = some (.cells #[.int .i64 0, .int .i64 0, .int .i64 0, .int .i64 0, .int .i64 0] 33 (0, 0)) ∧ i ≤ l.length ∧ l.length ≤ i + g ∧ s ≤ i ∧ runZ l gs cls wt fz g i s m = outZ l gs row cls wt rul fuel (.slice ga gs.length gc)) (fun _ vi _ => l.length - (intOf vi).toNat)
    case atStart => exact ⟨0, 0, l.length, _, rfl, rfl, hEm, rfl, rfl, j8, j10, Nat.zero_le _, by omega, Nat.le_refl _, ho.symm⟩
    case round =>
      clear hEm j8 j10 k8 k10 v0 v1 v2 hB1
      obtain ⟨i, s, g, m, rfl, rfl, hE, hru, hfl, h8, h10, hin, hgn, hsi, hR⟩ := hrel
      by_cases hlt : i < l.length
      · obtain ⟨g, rfl⟩ : ∃ g', g = g' + 1 := ⟨g - 1, by omega⟩
        rw [runZ, if_pos hlt] at hR
        have ok := hok i hlt
        obtain ⟨hl9, ⟨hl0, _⟩ | ⟨lb, lo, lcap, le, hlb, hlc⟩⟩ := hl
        · omega
        simp only [Value.slice.injEq, true_and] at le
        obtain ⟨rfl, rfl⟩ := le
        obtain ⟨x0, x1⟩ := hlc i hlt
        have x0 : wr.cell? ⟨lb, lo + i * 2, none⟩ = some (.int .i64 (xx l i).1) := (World.cell?_of_block (hE.b.block lb hlb)).trans x0
        have x1 : wr.cell? ⟨lb, lo + i * 2 + 1, none⟩ = some (.int .i64 (xx l i).2) := (World.cell?_of_block (hE.b.block lb hlb)).trans x1
        obtain ⟨op, arg, hxx⟩ : ∃ op arg, xx l i = (op, arg) := ⟨_, _, rfl⟩
        rw [hxx] at x0 x1 ok hR
        clear hlc
        have hlb' : lb < wr.heap.size := Nat.lt_of_lt_of_le hlb hE.b.size
        have hlt15 : W1.heap.size < wr.heap.size := hE.hm.lt
        have q0 := copy_cell h10 0 rfl; have q1 := copy_cell h10 1 rfl; have q2 := copy_cell h10 2 rfl; have q3 := copy_cell h10 3 rfl; have q4 := copy_cell h10 4 rfl; have z0 := qnx h10 0; have z1 := qnx h10 1; have z2 := qnx h10 2; have z3 := qnx h10 3; have z4 := qnx h10 4; have v0 := copy_cell h8 0 rfl; have v1 := copy_cell h8 1 rfl; have v2 := copy_cell h8 2 rfl
        by_cases hsf : (s : Int) = fz
        · rw [if_pos hsf] at hR
          gi_wp2_with fail
          refine ⟨rfl, _, results10 (put5 h10 _ _ _ _ _) rfl, ?_, below5 hE.b (by omega) _ _ _ _ _⟩
          rw [← ho, ← hR]
          simp [outV, hsf]
        · rw [if_neg hsf] at hR
          have h8a := fun o => (Below.heap_alloc wr o _ (Array.getElem?_eq_some_iff.1 h8).1).trans h8
          have h10a := fun o => (Below.heap_alloc wr o _ (Array.getElem?_eq_some_iff.1 h10).1).trans h10
          have n15' := World.alloc_heap_new wr (.cells #[.int .i64 op, .int .i64 arg] 88)
          have hne15 : wr.heap.size ≠ W1.heap.size := by omega
          have hne8 : w.heap.size ≠ W1.heap.size := by omega
          have hne10 : w.heap.size + 1 ≠ W1.heap.size := by omega
          have c22 := hE.hm.cell 22 (Mch.get_fl hE.hm.s)
          rw [hfl] at c22
          have hnB : ¬ W1.heap.size = wr.heap.size := by omega
          by_cases o0 : op = 0
          · subst o0
            have hst : stepX l gs (0, arg) (i + 1) m = (l.length, m) := if_pos rfl
            rw [hst, if_neg (by rw [hfl]; decide)] at hR
            gi_wp2_with fail
            go_roundw
            case rel => exact ⟨l.length, s + 1, g, m, by go_num, rfl, hE.alloc _, hru, hfl, h8a _, h10a _, by omega, by omega, by omega, hR⟩
            case measure => simp [intOf]; omega
          by_cases o17 : op = 17
          · subst o17
            obtain ⟨j1, j2⟩ := ok.j (.inl rfl)
            obtain ⟨k, rfl⟩ : ∃ k : Nat, arg = k := ⟨arg.toNat, by omega⟩
            have hst : stepX l gs (17, (k : Int)) (i + 1) m = (k, m) := by unfold stepX; rw [if_neg (by show ¬ (17 : Int) = 0; decide), if_pos rfl, Int.toNat_natCast]
            rw [hst, if_neg (by rw [hfl]; decide)] at hR
            gi_wp2_with fail
            go_roundw
            case rel => exact ⟨k, s + 1, g, m, by go_num, rfl, hE.alloc _, hru, hfl, h8a _, h10a _, by omega, by omega, by omega, hR⟩
            case measure => simp [intOf]; omega
          by_cases o18 : op = 18
          · subst o18
            obtain ⟨j1, j2⟩ := ok.j (.inr rfl)
            obtain ⟨k, rfl⟩ : ∃ k : Nat, arg = k := ⟨arg.toNat, by omega⟩
            have hst : stepX l gs (18, (k : Int)) (i + 1) m = (if popV m = 0 then k else i + 1, popS m) := by unfold stepX; rw [if_neg (by show ¬ (18 : Int) = 0; decide), if_neg (by show ¬ (18 : Int) = 17; decide), if_pos rfl, Int.toNat_natCast]
            rw [hst] at hR
            clear c22
            cases hf : (popS m).fl with
            | true =>
              rw [if_pos hf] at hR
              by_cases hz : popV m = 0
              all_goals
                gi_wp2_with (refine ⟨trivial, ?_⟩; gi_at_call 29; refine (callsIn_wide.2 (hE.alloc _).pop).mono ?_; rintro e W9 ⟨rfl, hE9, hg9⟩; have c22 := hE9.hm.cell 22 (Mch.get_fl hE9.hm.s); rw [hf] at c22; have n15 := copy_kept n15' hg9 hne15; have d1 := copy_cell n15 1 rfl; have d0 := copy_cell n15 0 rfl; have h8 := copy_kept (h8a _) hg9 hne8; have h10 := copy_kept (h10a _) hg9 hne10; have q0 := copy_cell h10 0 rfl; have q1 := copy_cell h10 1 rfl; have q2 := copy_cell h10 2 rfl; have q3 := copy_cell h10 3 rfl; have q4 := copy_cell h10 4 rfl; have z0 := qnx h10 0; have z1 := qnx h10 1; have z2 := qnx h10 2; have z3 := qnx h10 3; have z4 := qnx h10 4; have v0 := copy_cell h8 0 rfl; have v1 := copy_cell h8 1 rfl; have v2 := copy_cell h8 2 rfl)
                refine ⟨rfl, _, results10 (put5 h10 _ _ _ _ _) rfl, ?_, below5 hE9.b (by omega) _ _ _ _ _⟩
                rw [← hR]
                simp [outV]
            | false =>
              rw [if_neg (by rw [hf]; decide)] at hR
              by_cases hz : popV m = 0
              · rw [if_pos hz] at hR
                gi_wp2_with (refine ⟨trivial, ?_⟩; gi_at_call 29; refine (callsIn_wide.2 (hE.alloc _).pop).mono ?_; rintro e W9 ⟨rfl, hE9, hg9⟩; have c22 := hE9.hm.cell 22 (Mch.get_fl hE9.hm.s); rw [hf] at c22; have n15 := copy_kept n15' hg9 hne15; have d1 := copy_cell n15 1 rfl; have d0 := copy_cell n15 0 rfl; have h8 := copy_kept (h8a _) hg9 hne8; have h10 := copy_kept (h10a _) hg9 hne10)
                go_roundw
                case rel => exact ⟨k, s + 1, g, popS m, by go_num, rfl, hE9, (popS_rul m).trans hru, hf, h8, h10, by omega, by omega, by omega, hR⟩
                case measure => simp [intOf]; omega
              · rw [if_neg hz] at hR
                gi_wp2_with (refine ⟨trivial, ?_⟩; gi_at_call 29; refine (callsIn_wide.2 (hE.alloc _).pop).mono ?_; rintro e W9 ⟨rfl, hE9, hg9⟩; have c22 := hE9.hm.cell 22 (Mch.get_fl hE9.hm.s); rw [hf] at c22; have n15 := copy_kept n15' hg9 hne15; have d1 := copy_cell n15 1 rfl; have d0 := copy_cell n15 0 rfl; have h8 := copy_kept (h8a _) hg9 hne8; have h10 := copy_kept (h10a _) hg9 hne10)
                go_roundw
                case rel => exact ⟨i + 1, s + 1, g, popS m, by go_num, by go_num, hE9, (popS_rul m).trans hru, hf, h8, h10, by omega, by omega, by omega, hR⟩
                case measure => simp [intOf]; omega
          have o1 : 1 ≤ op := by have := ok.o0; omega
          have hst : stepX l gs (op, arg) (i + 1) m = (i + 1, simS m gs op arg) := by unfold stepX; rw [if_neg o0, if_neg o17, if_neg o18]
          rw [hst] at hR
          clear c22
          cases hf : (simS m gs op arg).fl with
          | true =>
            rw [if_pos hf] at hR
            gi_wp2_with (refine ⟨trivial, ?_⟩; gi_at_call 30; refine (callsIn_wide.2 (simple_in (hE.alloc _) (arg := arg) o1 ok.o1 o17 o18)).mono ?_; rintro e W9 ⟨⟨v9, rfl⟩, hE9, hg9⟩; have c22 := hE9.hm.cell 22 (Mch.get_fl hE9.hm.s); rw [hf] at c22; have n15 := copy_kept n15' hg9 hne15; have d1 := copy_cell n15 1 rfl; have d0 := copy_cell n15 0 rfl; have h8 := copy_kept (h8a _) hg9 hne8; have h10 := copy_kept (h10a _) hg9 hne10; have q0 := copy_cell h10 0 rfl; have q1 := copy_cell h10 1 rfl; have q2 := copy_cell h10 2 rfl; have q3 := copy_cell h10 3 rfl; have q4 := copy_cell h10 4 rfl; have z0 := qnx h10 0; have z1 := qnx h10 1; have z2 := qnx h10 2; have z3 := qnx h10 3; have z4 := qnx h10 4; have v0 := copy_cell h8 0 rfl; have v1 := copy_cell h8 1 rfl; have v2 := copy_cell h8 2 rfl)
            refine ⟨rfl, _, results10 (put5 h10 _ _ _ _ _) rfl, ?_, below5 hE9.b (by omega) _ _ _ _ _⟩
            rw [← hR]
            simp [outV]
          | false =>
            rw [if_neg (by rw [hf]; decide)] at hR
            gi_wp2_with (refine ⟨trivial, ?_⟩; gi_at_call 30; refine (callsIn_wide.2 (simple_in (hE.alloc _) (arg := arg) o1 ok.o1 o17 o18)).mono ?_; rintro e W9 ⟨⟨v9, rfl⟩, hE9, hg9⟩; have c22 := hE9.hm.cell 22 (Mch.get_fl hE9.hm.s); rw [hf] at c22; have n15 := copy_kept n15' hg9 hne15; have d1 := copy_cell n15 1 rfl; have d0 := copy_cell n15 0 rfl; have h8 := copy_kept (h8a _) hg9 hne8; have h10 := copy_kept (h10a _) hg9 hne10)
            go_roundw
            case rel => exact ⟨i + 1, s + 1, g, simS m gs op arg, by go_num, by go_num, hE9, (simS_rul m gs op arg).trans hru, hf, h8, h10, by omega, by omega, by omega, hR⟩
            case measure => simp [intOf]; omega
      · have hR' : runZ l gs cls wt fz g i s m = ⟨m.cls, m.wt, s, 0⟩ := by
          cases g with
          | zero => rfl
          | succ g => rw [runZ, if_neg hlt]
        rw [hR'] at hR
        have q0 := copy_cell h10 0 rfl; have q1 := copy_cell h10 1 rfl; have q2 := copy_cell h10 2 rfl; have q3 := copy_cell h10 3 rfl; have q4 := copy_cell h10 4 rfl; have z0 := qnx h10 0; have z1 := qnx h10 1; have z2 := qnx h10 2; have z3 := qnx h10 3; have z4 := qnx h10 4; have v0 := copy_cell h8 0 rfl; have v1 := copy_cell h8 1 rfl; have v2 := copy_cell h8 2 rfl
        have c2 := hE.hm.cell 2 (v := .int .i64 m.cls) rfl
        have c3 := hE.hm.cell 3 (v := .int .i64 m.wt) rfl
        have c4 := hE.hm.cell 4 (v := .int .i64 m.rul) rfl
        rw [hru] at c4
        gi_wp2_with fail
        refine ⟨rfl, _, results10 (put5 h10 _ _ _ _ _) rfl, ?_, below5 hE.b (by omega) _ _ _ _ _⟩
        first | rw [← ho, ← hR] | rw [← hR]
        simp [outV]
  · have ho : outZ l gs row cls wt rul fuel (.slice ga gs.length gc) = ⟨cls, wt, 0, chkS l⟩ := if_neg hc
    have q0 := copy_cell k10 0 rfl
    have q1 := copy_cell k10 1 rfl
    have q2 := copy_cell k10 2 rfl
    have q3 := copy_cell k10 3 rfl
    have q4 := copy_cell k10 4 rfl
    have z0 := qnx k10 0
    have z1 := qnx k10 1
    have z2 := qnx k10 2
    have z3 := qnx k10 3
    have z4 := qnx k10 4
    gi_wp2_with fail
    refine ⟨rfl, _, results10 (put5 k10 (.int .i64 cls) (.int .i64 wt) (.int .i64 rul) (.int .i64 0) (.int .i64 (chkS l))) rfl, ?_, below5 hB1 (by omega) _ _ _ _ _⟩
    rw [ho]
    rfl
end
end Go.Proofs.YtlhagkbhojmjpaaDoor
