/- Written by this repo's own program out of its texts. -/
import Derived.Test.YtlhagkbhojmjpaaGreatDoorPWz
set_option linter.unusedSimpArgs false
set_option linter.unusedVariables false
set_option linter.unusedSectionVars false
set_option linter.unnecessarySimpa false
namespace Go.Proofs.YtlhagkbhojmjpaaGreatDoor
section
open Go.RowKit Go.Shelf
attribute [local go_sem] Oper.semAt_some
theorem spans_in (n : Nat) (a : Option Addr) (m c : Nat) (fv : Value) (h : ∃ f x y, fv = .func f x y) (w : World) : CallsIn Fence.wide n Tryz.prog 58 #[.slice a m c, fv] w fun e w' =>
  e = .returned (.func (.func 94) #[] #[.pointer (some ⟨w.heap.size, 0, none⟩), .pointer (some ⟨w.heap.size + 1, 0, none⟩)]) ∧ w' = (w.alloc (.cells #[.slice a m c] 56)).alloc (.cells #[fv] 117) := by
 obtain ⟨f, x, y, rfl⟩ := h
 refine callsIn_of_wp Tryz.func58 rfl trivial ?_ rfl
 simp only [Tryz.ntmps58, List.size_toArray, List.length_cons, List.length_nil, Nat.reduceAdd, Nat.reduceSub, Array.replicate_succ, Array.replicate_zero, List.push_toArray, List.append_toArray, List.nil_append, List.cons_append]
 gi_wp2
 go_ret
 exact ⟨rfl, rfl⟩
theorem HasC.own {β : Type} (B : Nat) (t : TypeId) (f : β → Array Value) : Own (fun s W => HasC W B (f s) t) := fun s X Y row hs hg hrow =>
 HasC.kept hs hg (fun e' => by obtain ⟨o, ho, hc⟩ := hrow B e'.symm; rw [show X.heap[B]? = _ from hs] at ho; cases ho; cases hc)
theorem HasC.other {W : World} {B B' : Nat} {cs : Array Value} {t : TypeId} (h : HasC W B cs t) (hne : B ≠ B') (j : Nat) (u : Value) : HasC (W.setCell ⟨B', j, none⟩ u) B cs t := (Below.heap_setCell W ⟨B', j, none⟩ u B hne).trans h
theorem HasC.not_row {W : World} {B : Nat} {t e : TypeId} {cs : Array Value} (h : HasC W B cs t) (hte : t ≠ e) {base size k : Nat} {v : Value} {xs : List Value} (hr : W.ownsRow base e size v k xs) : some B ≠ v.ownBlock := by
 rcases hr.2 with ⟨rfl, _⟩ | ⟨g, cap, cur, rfl, _, hgb, _⟩
 ·simp [Value.ownBlock]
 ·intro e'
  obtain rfl : B = g := by simpa [Value.ownBlock] using e'
  have := (show W.heap[B]? = _ from h).symm.trans hgb
  simp at this
  exact hte this.2
theorem HasC.appended {W w1 : World} {n₀ B B9 : Nat} {t e : TypeId} {cs : Array Value} {size : Nat} {v : Value} {k : Nat} {xs : List Value} {tmp : Obj} (h : HasC W B cs t) (hte : t ≠ e) (hrow : W.ownsRow n₀ e size v k xs)
  (hgrow : (W.alloc tmp).grownBy w1 v.ownBlock) (hne : B ≠ B9) (u : Value) : HasC (w1.setCell ⟨B9, 0, none⟩ u) B cs t :=
 (((h.alloc tmp).kept hgrow (h.not_row hte hrow))).other hne 0 u
def flatW (l : List (Nat × Nat)) : List Value := l.flatMap fun x => [.int .i64 (x.1 : Nat), .int .i64 (x.2 : Nat)]
theorem flatW_snoc (l : List (Nat × Nat)) (x : Nat × Nat) : flatW (l ++ [x]) = flatW l ++ [.int .i64 (x.1 : Nat), .int .i64 (x.2 : Nat)] := by simp [flatW]
theorem flatW_len (l : List (Nat × Nat)) : (flatW l).length = l.length * 2 := by
 induction l with
 | nil => rfl
 | cons x l ih => simp only [flatW, List.flatMap_cons, List.length_append, List.length_cons, List.length_nil] at ih ⊢; omega
theorem cell_two' (w : World) (n : Nat) (hn : n = w.heap.size) (x y : Value) (t : TypeId) : ∀ j u, [x, y][j]? = some u → (w.alloc (.cells #[x, y] t)).cell? ((⟨n, 0, none⟩ : Addr).add j) = some u := by
 subst hn
 intro j u hj
 have h := HasC.new w #[x, y] t
 match j, hj with
 | 0, hj =>
  simp at hj; subst hj
  simp [Addr.add, h.cell 0 rfl]
 | 1, hj =>
  simp at hj; subst hj
  simp [Addr.add, h.cell 1 rfl]
theorem row_slice {W : World} {base : Nat} {e : TypeId} {size : Nat} {v : Value} {k : Nat} {xs : List Value} (h : W.ownsRow base e size v k xs) : ∃ a cap, v = .slice a k cap := by
 rcases h.2 with ⟨rfl, rfl⟩ | ⟨g, cap, _, rfl, _⟩
 ·exact ⟨none, 0, rfl⟩
 ·exact ⟨_, cap, rfl⟩
theorem spanI : ∃ i0, Tryz.prog.info? 68 = some i0 ∧ i0.zero = some (.agg #[.int .i64 0, .int .i64 0]) ∧ i0.size = 2 ∧ i0.bytes = 16 := info_parts (by kernel_rfl)
def flt (l : List Gl) (pre : List (Nat × Nat)) : List (Nat × Nat) := pre.filter fun s => decide (segK (gg l s.1) ≠ 0)
theorem flt_snoc (l : List Gl) (pre : List (Nat × Nat)) (x : Nat × Nat) : flt l (pre ++ [x]) = flt l pre ++ if segK (gg l x.1) ≠ 0 then [x] else [] := by
 unfold flt
 rw [List.filter_append]
 congr 1
 by_cases h : segK (gg l x.1) ≠ 0
 ·rw [if_pos h]; simp [h]
 ·rw [if_neg h]; simp [h]
theorem segA_flt (L : List Gl) : ∀ (f a : Nat), flt L (segA f (L.drop a) a) = segF f (L.drop a) a
 | 0, a => rfl
 | f + 1, a => by
  rcases Nat.lt_or_ge a L.length with hlt | hge
  ·rw [zkt hlt, segA_cons]
   unfold segF
   dsimp only
   rw [List.drop_drop, ← segA_flt L f (a + 1 + runL (segK (gg L a)) (L.drop (a + 1)))]
   unfold flt
   rw [List.filter_cons]
   by_cases h : segK (gg L a) ≠ 0
   ·rw [if_pos h, if_pos (by simpa using h)]; rfl
   ·rw [if_neg h, if_neg (by simpa using h)]; rfl
  ·rw [List.drop_of_length_le hge]
   rfl
def mark (D : Nat) : Deferred := { target := .collected D, args := #[] }
theorem leaves_marks {F : Fence} {n : Nat} {P : Program} {fn : Func} {tmps : Array Value} {R : Ending → World → Prop} : ∀ (ds : List Nat) (W : World), (∀ D ∈ ds, W.heap[D]? = some (.deferred (some []))) → ds.Nodup →
  (∀ W', W'.os = W.os → W'.tape = W.tape → W'.output = W.output → W'.heap.size = W.heap.size → (∀ k, k ∉ ds → W'.heap[k]? = W.heap[k]?) → ∃ v, (results fn tmps).run P W' = .ok v W' ∧ R (.returned v) W') → LeavesInM F n P fn tmps R (ds.map mark) .returning W
 | [], W, _, _, h => by
  obtain ⟨v, h1, h2⟩ := h W rfl rfl rfl rfl (fun _ _ => rfl)
  exact ⟨v, h1, h2⟩
 | D :: ds, W, hd, hn, h => by
  have h0 := hd D List.mem_cons_self
  obtain ⟨hnD, hn⟩ := List.nodup_cons.1 hn
  refine ⟨by simp, .inl ⟨D, W.putObj D (.deferred none), rfl, run_takeDeferred h0, ?_⟩⟩
  refine leaves_marks ds _ (fun E hE => ?_) hn (fun W' e1 e2 e3 e4 e5 => ?_)
  ·rw [World.putObj_heap_other (fun e => hnD (by rw [← e]; exact hE))]
   exact hd E (List.mem_cons_of_mem _ hE)
  ·refine h W' e1 e2 e3 (e4.trans (by simp [World.putObj])) fun k hk => ?_
   rw [e5 k (fun hh => hk (List.mem_cons_of_mem _ hh)), World.putObj_heap_other (fun e => hk (by rw [e]; exact List.mem_cons_self))]
structure WdS (w : World) (lv : Value) (l : List Gl) (pre : List (Nat × Nat)) (W : World) : Prop where
 o : ∃ v, Boxed W (w.heap.size + 1) 65 v ∧ W.ownsRow w.heap.size 68 2 v (flt l pre).length (flatW (flt l pre)) ∧ True
 b0 : HasC W w.heap.size #[lv] 56
 b2 : HasC W (w.heap.size + 2) #[lv] 56
 b3 : HasC W (w.heap.size + 3) #[.func (.func 59) #[] #[.pointer (some ⟨w.heap.size, 0, none⟩)]] 117
 be : Below w.heap.size w W
theorem WdS.own (w : World) (lv : Value) (l : List Gl) {B : Nat} (hB : w.heap.size ≤ B) : OwnFrom B (fun pre W => WdS w lv l pre W) := fun s X Y rw' h hg hr => by
 have hr' : ∀ r, rw' = some r → ∃ o : Obj, X.heap[r]? = some o ∧ o.isCells = false := fun r e => (hr r e).2
 exact ⟨holdsRow_own w.heap.size (w.heap.size + 1) 65 68 2 (fun pre => (flt l pre).length) (fun pre => flatW (flt l pre)) (fun _ _ => True) s X Y rw' h.o hg hr',
  HasC.own w.heap.size _ (fun (_ : Unit) => _) () X Y rw' h.b0 hg hr', HasC.own _ _ (fun (_ : Unit) => _) () X Y rw' h.b2 hg hr', HasC.own _ _ (fun (_ : Unit) => _) () X Y rw' h.b3 hg hr',
  ownFrom_below (Nat.le_refl _) hB s X Y rw' h.be hg hr⟩
theorem WdS.alloc {w W : World} {lv : Value} {l : List Gl} {p : List (Nat × Nat)} (h : WdS w lv l p W) (o : Obj) : WdS w lv l p (W.alloc o) :=
 WdS.own w lv l (Nat.le_refl _) p W _ none h (World.grownBy_alloc W o none) (fun r e => by cases e)
theorem WdS.below {w W W' : World} {lv : Value} {l : List Gl} {p : List (Nat × Nat)} (h : WdS w lv l p W) (hb : Below W.heap.size W W') : WdS w lv l p W' :=
 WdS.own w lv l (Nat.le_refl _) p W _ none h (grown_of_below hb) (fun r e => by cases e)
theorem WdS.kp {w W W' : World} {lv : Value} {l : List Gl} {p q : List (Nat × Nat)} (h : WdS w lv l p W) (h' : WdS w lv l q W') (hb : Below w.heap.size W W') : Kp4 w.heap.size w.heap.size W W' :=
 ⟨hb, fun k h1 => by
  rcases h1 with rfl | rfl | rfl
  ·exact (show W'.heap[_]? = _ from h'.b0).trans (show W.heap[_]? = _ from h.b0).symm
  ·exact (show W'.heap[_]? = _ from h'.b2).trans (show W.heap[_]? = _ from h.b2).symm
  ·exact (show W'.heap[_]? = _ from h'.b3).trans (show W.heap[_]? = _ from h.b3).symm⟩
theorem WdS.skip {w W : World} {lv : Value} {l : List Gl} {p : List (Nat × Nat)} {x : Nat × Nat} (h : WdS w lv l p W) (hx : segK (gg l x.1) = 0) : WdS w lv l (p ++ [x]) W :=
 ⟨by rw [flt_snoc, if_neg (fun k => k hx), List.append_nil]; exact h.o, h.b0, h.b2, h.b3, h.be⟩
theorem WdS.step {w W w1 : World} {lv : Value} {l : List Gl} {p : List (Nat × Nat)} {x : Nat × Nat} (h : WdS w lv l p W) {v v' : Value} {tmp : Obj} (hx : segK (gg l x.1) ≠ 0)
  (hv : Boxed W (w.heap.size + 1) 65 v) (hrow : W.ownsRow w.heap.size 68 2 v (flt l p).length (flatW (flt l p)))
  (hown' : w1.ownsRow w.heap.size 68 2 v' ((flt l p).length + 1) (flatW (flt l p) ++ [.int .i64 (x.1 : Nat), .int .i64 (x.2 : Nat)])) (hgrow : (W.alloc tmp).grownBy w1 v.ownBlock) :
  Boxed w1 (w.heap.size + 1) 65 v ∧ KeepsOthers W (w1.setCell ⟨w.heap.size + 1, 0, none⟩ v') ∧ Below w.heap.size W (w1.setCell ⟨w.heap.size + 1, 0, none⟩ v') ∧ WdS w lv l (p ++ [x]) (w1.setCell ⟨w.heap.size + 1, 0, none⟩ v') := by
 obtain ⟨k1, k2, k3, k4, k5⟩ := hv.appended (by decide) hrow h.be.size (by omega) hown' hgrow
 refine ⟨k1, k4, k5, ⟨v', k2, by rw [flt_snoc, if_pos hx, List.length_append, flatW_snoc]; exact k3, trivial⟩, h.b0.appended (by decide) hrow hgrow (by omega) _, h.b2.appended (by decide) hrow hgrow (by omega) _, h.b3.appended (by decide) hrow hgrow (by omega) _, h.be.trans k5⟩
set_option maxRecDepth 100000 in
set_option maxHeartbeats 4000000 in
theorem words_in (w : World) (hG : GlobOk (mkEnv globT []) gtabU w) (l : List Gl) (lv : Value) (hr : GlRow w lv l) (hl : l.length ≤ 10000) :
  Calls Tryz.prog 23 #[lv] w fun e w' => ∃ v, e = .returned v ∧ w'.ownsRow w.heap.size 68 2 v (segW l).length (flatW (segW l)) ∧ Below w.heap.size w w' := by
 obtain ⟨i0, hi0, hz0, hz1, hz2⟩ := spanI
 have hr0 := hr
 obtain ⟨la, lc, rfl, hrr⟩ := hr
 refine (callsIn_wide (n := 8)).1 ?_
 refine callsIn_of_wp_marks Tryz.func23 rfl trivial ?_ rfl
 simp only [Tryz.ntmps23, List.size_toArray, List.length_cons, List.length_nil, Nat.reduceAdd, Nat.reduceSub, Array.replicate_succ, Array.replicate_zero, List.push_toArray, List.append_toArray, List.nil_append, List.cons_append]
 gi_wp2_with (refine ⟨trivial, ?_⟩; gi_at_call 58; refine (spans_in _ _ _ _ _ ⟨_, _, _, rfl⟩ _).mono ?_; rintro e w' ⟨rfl, rfl⟩)
 obtain ⟨WL, hWL, hI0, hLs⟩ : ∃ WL, (((w.alloc (.cells #[.slice la l.length lc] 56)).alloc (.cells #[.slice none 0 0] 65)).alloc (.cells #[.slice la l.length lc] 56)).alloc (.cells #[.func (.func 59) #[] #[.pointer (some ⟨w.heap.size, 0, none⟩)]] 117) = WL ∧ WdS w (.slice la l.length lc) l [] WL ∧ WL.heap.size = w.heap.size + 4 := by
  have f0 := HasC.new w #[.slice la l.length lc] 56
  have f1 := Boxed.new (w.alloc (.cells #[.slice la l.length lc] 56)) 65 (.slice none 0 0)
  have f2 := HasC.new ((w.alloc (.cells #[.slice la l.length lc] 56)).alloc (.cells #[.slice none 0 0] 65)) #[.slice la l.length lc] 56
  have f3 := HasC.new (((w.alloc (.cells #[.slice la l.length lc] 56)).alloc (.cells #[.slice none 0 0] 65)).alloc (.cells #[.slice la l.length lc] 56)) #[.func (.func 59) #[] #[.pointer (some ⟨w.heap.size, 0, none⟩)]] 117
  simp only [World.size_alloc] at f1 f2 f3
  refine ⟨_, rfl, ⟨⟨_, ?_, ⟨rfl, .inl ⟨rfl, rfl⟩⟩, trivial⟩, ((f0.alloc _).alloc _).alloc _, f2.alloc _, f3, ?_⟩, by simp⟩
  ·exact (f1.alloc _).alloc _
  ·exact ((((Below.refl _ w).alloc (by simp) _).alloc (by simp) _).alloc (by simp; omega) _).alloc (by simp; omega) _
 rw [hWL]
 clear hWL
 refine wpIn_rangeFunc_ownH rfl (by decide) (gf := 94) (lb := #[.pointer (some ⟨w.heap.size + 1 + 1, 0, none⟩), .pointer (some ⟨w.heap.size + 1 + 1 + 1, 0, none⟩)]) rfl trivial (enters_of Tryz.func94 (by kernel_rfl) rfl)
  (encs := fun x : Sp l => #[.agg #[.int .i64 (x.1.1 : Nat), .int .i64 (x.1.2 : Nat)]]) (Kp := Kp4 w.heap.size w.heap.size) (S := fun ys => vS ys = segA l.length l 0) (Sp := fun _ => True) (N := l.length) (w0 := WL)
  (fun lp J Jx W hW hJ hJx hY h0 => spans1_in 7 (by decide) lp w.heap.size w.heap.size l _ hl J Jx W hJ (by have := hW.size; omega) (by have := hW.size; omega) ⟨_, _, rfl⟩
   (fun i h1 h2 W' hk => words1_in W' (hG.below ((hI0.be.trans (hW.mono (by omega))).trans hk.1)) l _ w.heap.size (hr0.below ((hI0.be.trans (hW.mono (by omega))).trans hk.1) (Nat.le_refl _)) ((hk.cell (.inl rfl)).trans ((hI0.b0.below hW (by omega)).cell 0 rfl)) (by have := hW.size; have := hk.1.size; omega) i h1 h2 hl)
   hY ((hI0.b2.below hW (by omega)).cell 0 rfl) ((hI0.b3.below hW (by omega)).cell 0 rfl) h0)
  Kp4.trans (fun W l o o' hl h hc hw => Kp4.putObj (w := WL) (by omega) (by omega) W l o o' hl h hc hw) (Below.refl _ _) (fun _ => rfl)
  (fun pre W => WdS w (.slice la l.length lc) l (vS pre) W) (fun _ _ _ => False)
  (fun s => WdS.own w (.slice la l.length lc) l (B := WL.heap.size) (by omega) (vS s)) (fun _ _ _ _ _ hs _ _ => hs) hI0
  (fun x a' W => ∃ Bx, WL.heap.size ≤ Bx ∧ HasC W Bx #[.int .i64 (x.1.1 : Nat), .int .i64 (x.1.2 : Nat)] 68 ∧ a' = { tmps := #[.slice la l.length lc, .pointer (some ⟨w.heap.size, 0, none⟩), .slice none 0 0, .pointer (some ⟨w.heap.size + 1, 0, none⟩), .pointer (some ⟨Bx, 0, none⟩), .slice la l.length lc, .func (.func 59) #[] #[.pointer (some ⟨w.heap.size, 0, none⟩)], .func (.func 94) #[] #[.pointer (some ⟨w.heap.size + 1 + 1, 0, none⟩), .pointer (some ⟨w.heap.size + 1 + 1 + 1, 0, none⟩)], .agg #[.int .i64 (x.1.1 : Nat), .int .i64 (x.1.2 : Nat)], undef, undef, undef, undef, undef, undef, undef, undef, undef, undef, undef, undef], defers := [] })
  (fun x a' _ X Y rw' hs hg hr => by obtain ⟨Bx, h1, h2, h3⟩ := hs; exact ⟨Bx, h1, HasC.own Bx _ (fun (_ : Unit) => _) () X Y rw' h2 hg (fun r e => (hr r e).2), h3⟩)
  ?assign ?body ?done ?stop
 case assign =>
  rintro lp pre x W K hi hK
  gi_wp2_with fail
  have := hi.b3.lt
  exact hK _ _ ((KeepsOthers.alloc _ _).from _) ⟨(Below.refl _ W).alloc hi.be.size _, fun k h1 => Below.heap_alloc _ _ _ (by omega)⟩ (hi.alloc _) ⟨W.heap.size, by omega, HasC.new W _ _, rfl⟩
 case body =>
  rintro lp pre x a' W hlp ⟨r, hr⟩ hi ⟨Bx, hBx, hX, rfl⟩ hlt
  obtain ⟨⟨xa, xb⟩, hxl⟩ := x
  dsimp only at hX hxl ⊢
  obtain ⟨b, off, rfl, hbw, hcells⟩ := hrr (fun e => by rw [e] at hxl; simp at hxl)
  obtain ⟨k0, k1, k2⟩ := hcells xa hxl
  have hfl : (flt l (vS pre)).length ≤ 10000 := by
   have h1 : (flt l (vS pre)).length ≤ (vS pre).length := List.length_filter_le _ _
   have h2 : (vS pre).length = pre.length := List.length_map _
   omega
  have c0 := hi.b0.cell 0 rfl
  have cX0 := hX.cell 0 rfl
  have cX1 := hX.cell 1 rfl
  have r0 := (hi.be.cell (p := ⟨b, off + xa * 3, none⟩) hbw).trans k0
  have r1 := (hi.be.cell (p := ⟨b, off + xa * 3 + 1, none⟩) hbw).trans k1
  have r2 := (hi.be.cell (p := ⟨b, off + xa * 3 + 2, none⟩) hbw).trans k2
  have hK := kind_call (w := W) (hG.below hi.be) (gg l xa)
  by_cases hk : segK (gg l xa) = 0
  ·rw [hk] at hK
   gi_wp2_with (refine ⟨trivial, ?_⟩; gi_at_call 60; refine (callsIn_wide.2 hK).mono ?_; rintro e w1 ⟨rfl, hb1⟩)
   have hi1 := (hi.below hb1).skip (x := (xa, xb)) hk
   have hbl := hi.b3.lt
   exact ⟨(KeepsOthers.of_grownBy (grown_of_below hb1) (fun j o e => by cases e)).from _, Kp4.below hb1 hi.be.size (by omega), by dsimp only; rw [vS_snoc]; exact hi1⟩
  ·have hk' : ¬ ((segK (gg l xa) : Nat) : Int) = 0 := by omega
   generalize hsk : segK (gg l xa) = sk at hK hk'
   gi_wp2_with (first | (refine ⟨trivial, ?_⟩; gi_at_call 60; refine (callsIn_wide.2 hK).mono ?_; rintro e w1 ⟨rfl, hb1⟩; have hi1 := hi.below hb1; obtain ⟨v, hv, hrow, _⟩ := hi1.o; obtain ⟨av, cv, rfl⟩ := row_slice hrow; have hX1 := hX.below hb1 hX.lt; have cX10 := hX1.cell 0 rfl; have cX11 := hX1.cell 1 rfl; have cl := hv.cell) | (gi_at_builtin; refine wpListIn_append_own _ rfl _ _ 65 rfl w.heap.size 68 i0 _ 2 16 Tryz.underlying65 hi0 hz0 hz1 hz2 rfl (by decide) _ _ _ rfl (hrow.alloc _) ⟨w1.heap.size, 0, none⟩ 1 1 [.int .i64 (xa : Nat), .int .i64 (xb : Nat)] rfl rfl (cell_two' _ _ (by simp) _ _ _) (by simp [Value.oneCell']) (by simp [maxLen]; omega) (by omega) (by have := hi1.be.size; simp; omega) ?_; intro v' w2 hown' hgrow _; obtain ⟨g', cap', rfl⟩ := ownsRow_succ hown'; obtain ⟨hv1, hk2, hb2, hi3⟩ := hi1.step (x := (xa, xb)) hk hv hrow hown' hgrow; have hc1 := hv1.cell; have hf1 := hv1.frozen))
   have hbl := hi.b3.lt
   exact ⟨((KeepsOthers.of_grownBy (grown_of_below hb1) (fun j o e => by cases e)).trans hk2).from _, (Kp4.below hb1 hi.be.size (by omega)).trans (hi1.kp hi3 hb2), by dsimp only; rw [vS_snoc]; exact hi3⟩
 case done =>
  rintro D zs W hD hzs hi hK
  have hfe : flt l (vS zs) = segW l := by
   have := segA_flt l l.length 0
   rw [List.drop_zero] at this
   rw [hzs]; exact this
  obtain ⟨v, hv, hrow, _⟩ := hi.o
  rw [hfe] at hrow
  have cv := hv.cell
  have hvl := hv.lt
  dsimp only
  gi_wp2_with fail
  refine leaves_marks [D] W (fun X hX => by simp at hX; subst hX; exact hK) (by simp) (fun W' e1 e2 e3 e4 e5 => ⟨_, results_tmp rfl _ _ _, v, rfl, ?_, ?_⟩)
  ·have hg : W.grownBy W' (some D) := ⟨e1, e2, e3, by omega, fun k hk hne => e5 k (fun h => hne (by simp at h; rw [h]))⟩
   refine hrow.kept hg ?_
   rcases hrow.2 with ⟨rfl, _⟩ | ⟨g, cap, cur, rfl, _, hgb, _⟩
   ·exact .inl rfl
   ·refine .inr fun e' => ?_
    have : g = D := by simpa [Value.ownBlock] using e'
    subst this
    rw [hgb] at hK
    cases hK
  ·exact hi.be.trans ⟨e1, e2, e3, by omega, fun k hk => e5 k (fun h => by simp at h; omega)⟩
 case stop =>
  rintro D c pre W _ _ h _
  exact h.elim
theorem flatW_get : ∀ {l : List (Nat × Nat)} {i : Nat} {x : Nat × Nat}, l[i]? = some x → (flatW l)[i * 2]? = some (.int .i64 (x.1 : Nat)) ∧ (flatW l)[i * 2 + 1]? = some (.int .i64 (x.2 : Nat))
 | y :: l, 0, x, h => by
  simp at h; subst h
  exact ⟨rfl, rfl⟩
 | y :: l, i + 1, x, h => by
  have := flatW_get (l := l) (i := i) (x := x) (by simpa using h)
  rw [show (i + 1) * 2 = i * 2 + 2 by omega, show i * 2 + 2 + 1 = (i * 2 + 1) + 2 by omega]
  exact this
theorem rowT_spn (M : Mem) (l : List (Nat × Nat)) : RowT M true [.int .i64, .int .i64] (l.map fun s => TV.agg [.int s.1, .int s.2]) (flatW l) := by
 refine ⟨by rw [flatW_len, List.length_map]; rfl, fun i hi c hc => ?_⟩
 have hi' : i < l.length := by simpa using hi
 have hx : l[i]? = some l[i] := List.getElem?_eq_getElem hi'
 obtain ⟨h0, h1⟩ := flatW_get hx
 have e : (l.map fun s : Nat × Nat => TV.agg [.int s.1, .int s.2])[i] = .agg [.int l[i].1, .int l[i].2] := by simp
 rw [e]
 match c, hc with
 | 0, _ => exact ⟨_, h0, .int .i64 (.int l[i].1)⟩
 | 1, _ => exact ⟨_, h1, .int .i64 (.int l[i].2)⟩
theorem res_spn {B : Nat} {w : World} {e : TypeId} {l : List (Nat × Nat)} {v : Value} (h : w.ownsRow B e 2 v l.length (flatW l)) : ResRep B w (fun g => gOf v = some g) [(false, [((.slice true [.int .i64, .int .i64]), some e)])] (spnT l) v := by
 refine ⟨[v], by simp, rfl, fun i x u hx hu => ?_, rfl, fun i x u hx hu => ?_, ?_⟩
 ·cases i with
  | zero => simp at hx; subst hx; rfl
  | succ i => simp at hx
 ·cases i with
  | zero =>
   have hx : (((CT.slice true [.int .i64, .int .i64]), some e), spnT l) = x := by simpa [zx6, zlm, zbk] using hx
   have hu : v = u := by simpa [zdc, flatV] using hu
   subst hx hu
   exact ⟨flatW l, by rw [spnT_asList, List.length_map]; exact h, by rw [spnT_asList]; exact rowT_spn _ l, fun g hg => hg⟩
  | succ i => simp [zx6, zlm] at hx
 ·have : (zb0 (zfx [(false, [((CT.slice true [.int .i64, .int .i64]), some e)])]) (zdc [(false, [((CT.slice true [.int .i64, .int .i64]), some e)])] [v])).length ≤ 1 := by
   simp only [zb0, zfx, zdc, flatV, List.append_nil, Bool.false_eq_true, if_false]
   exact List.length_filterMap_le _ _
  generalize zb0 _ _ = z at this ⊢
  match z, this with
  | [], _ => exact List.nodup_nil
  | [a], _ => simp
theorem swd_c (k : Nat) : Contract Tryz.prog (mkEnv globT []) gtabU (q46 k) swdL.pre swdL.post where
 enters := ⟨_, Tryz.f23.body.getD .skip, Tryz.func23, by kernel_rfl, by kernel_rfl⟩
 calls := fun w ts vs hg ha hp => by
  obtain ⟨l, rfl, hl⟩ := hp
  obtain ⟨v0, vs0, e0, h0, ha⟩ := zcl ha
  obtain ⟨_, e2⟩ := zgh ha
  subst e2
  have ev : vs = #[v0] := by apply Array.toList_inj.1; rw [e0]
  subst ev
  obtain ⟨ct, hct, h0⟩ := h0
  have hct : CT.slice true [CT.str, CT.bool, CT.int .i64] = ct := by simpa using hct
  subst hct
  refine (words_in w hg l v0 (glRow_of h0) hl).mono ?_
  rintro x w' ⟨v, he, ho, hb⟩
  exact ⟨_, v, fun g => gOf v = some g, he, swd_fin rfl, hb, gOf_own ho, res_spn ho⟩
end
end Go.Proofs.YtlhagkbhojmjpaaGreatDoor
