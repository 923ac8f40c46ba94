/- scriptverify.Fuel, walked by hand (a range over a function within a loop). -/
import Derived.Test.YtlhagkbhojmjpaaDoorSuc
import Derived.Deep.OwnRows
import Derived.Test.YtlhagkbhojmjpaaDoorReg
namespace Go.Proofs.YtlhagkbhojmjpaaDoor
set_option linter.unusedSimpArgs false
set_option linter.unusedVariables false
set_option linter.unnecessarySimpa false
section
open Go.RowKit Go.Shelf
attribute [local go_sem] Oper.semAt_some

def mark (D : Nat) : Deferred := { target := .collected D, args := #[] }
def Marks (n₀ : Nat) (ds : List Nat) (W : World) : Prop := ds.Nodup ∧ ∀ D ∈ ds, n₀ ≤ D ∧ W.heap[D]? = some (.deferred (some []))
theorem Marks.own {n₀ B : Nat} {ds : List Nat} {W W' : World} {row : Option Nat} (h : Marks n₀ ds W) (hB : ∀ D ∈ ds, D < B) (hg : W.grownBy W' row) (hr : ∀ r, row = some r → B ≤ r) : Marks n₀ ds W' :=
  ⟨h.1, fun D hD => ⟨(h.2 D hD).1, (hg.block D (Array.getElem?_eq_some_iff.1 (h.2 D hD).2).1 (fun e => by have := hr D e.symm; have := hB D hD; omega)).trans (h.2 D hD).2⟩⟩
theorem HasC.ne {W : World} {B D : Nat} {cs : Array Value} {t : TypeId} {ds} (h : HasC W B cs t) (hD : W.heap[D]? = some (.deferred ds)) : D ≠ B := fun e => by subst e; rw [show W.heap[D]? = _ from h] at hD; cases hD
theorem Marks.lt {n₀ : Nat} {ds : List Nat} {W : World} (h : Marks n₀ ds W) : ∀ D ∈ ds, D < W.heap.size := fun D hD => (Array.getElem?_eq_some_iff.1 (h.2 D hD).2).1
theorem Marks.alloc {n₀ : Nat} {ds : List Nat} {W : World} (h : Marks n₀ ds W) (o : Obj) : Marks n₀ ds (W.alloc o) := ⟨h.1, fun D hD => ⟨(h.2 D hD).1, (Below.heap_alloc _ _ _ (h.lt D hD)).trans (h.2 D hD).2⟩⟩
theorem Marks.set {n₀ : Nat} {ds : List Nat} {W : World} (h : Marks n₀ ds W) {B : Nat} {cs : Array Value} {t : TypeId} (hB : HasC W B cs t) (j : Nat) (u : Value) : Marks n₀ ds (W.setCell ⟨B, j, none⟩ u) := ⟨h.1, fun D hD => ⟨(h.2 D hD).1, qiw (h.2 D hD).2 (hB.ne (h.2 D hD).2) u⟩⟩
theorem Marks.below {n₀ : Nat} {ds : List Nat} {W W' : World} (h : Marks n₀ ds W) (hb : Below W.heap.size W W') : Marks n₀ ds W' := ⟨h.1, fun D hD => ⟨(h.2 D hD).1, (hb.block D (h.lt D hD)).trans (h.2 D hD).2⟩⟩
theorem Marks.cons {n₀ D : Nat} {ds : List Nat} {W : World} (h : Marks n₀ ds W) (hD : D ∉ ds) (h0 : n₀ ≤ D) (hW : W.heap[D]? = some (.deferred (some []))) : Marks n₀ (D :: ds) W := ⟨List.nodup_cons.2 ⟨hD, h.1⟩, fun E hE => by
  rcases List.mem_cons.1 hE with rfl | hE
  · exact ⟨h0, hW⟩
  · exact h.2 E hE⟩
theorem leaves_marks {F : Fence} {n : Nat} {P : Program} {fn : Func} {tmps : Array Value} {R : Ending → World → Prop} : ∀ (ds : List Nat) (W : World), (∀ D ∈ ds, W.heap[D]? = some (.deferred (some []))) → ds.Nodup →
    (∀ W', W'.os = W.os → W'.tape = W.tape → W'.output = W.output → W'.heap.size = W.heap.size → (∀ k, k ∉ ds → W'.heap[k]? = W.heap[k]?) → ∃ v, (results fn tmps).run P W' = .ok v W' ∧ R (.returned v) W') → LeavesInM F n P fn tmps R (ds.map mark) .returning W
  | [], W, _, _, h => by
    obtain ⟨v, h1, h2⟩ := h W rfl rfl rfl rfl (fun _ _ => rfl)
    exact ⟨v, h1, h2⟩
  | D :: ds, W, hd, hn, h => by
    have h0 := hd D List.mem_cons_self
    obtain ⟨hnD, hn⟩ := List.nodup_cons.1 hn
    refine ⟨by simp, .inl ⟨D, W.putObj D (.deferred none), rfl, run_takeDeferred h0, ?_⟩⟩
    refine leaves_marks ds _ (fun E hE => ?_) hn (fun W' e1 e2 e3 e4 e5 => ?_)
    · rw [World.putObj_heap_other (fun e => hnD (by rw [← e]; exact hE))]
      exact hd E (List.mem_cons_of_mem _ hE)
    · refine h W' e1 e2 e3 (e4.trans (by simp [World.putObj])) fun k hk => ?_
      rw [e5 k (fun hh => hk (List.mem_cons_of_mem _ hh)), World.putObj_heap_other (fun e => hk (by rw [e]; exact List.mem_cons_self))]

def maxAt (i : Nat) (o : List Int) (k : Int) : List Int := o.set i (max (o.getD i 0) (o.getD k.toNat 0))
def fueX (x : Ins) (i : Nat) (o : List Int) : List Int := ((succL x.1 x.2 i).foldl (maxAt i) o).set i (((succL x.1 x.2 i).foldl (maxAt i) o).getD i 0 + 1)
def fueS (l : List Ins) : Nat → List Int
  | 0 => List.replicate (l.length + 1) 0
  | k + 1 => fueX (xx l (l.length - 1 - k)) (l.length - 1 - k) (fueS l k)
def iV (o : List Int) : Array Value := (o.map fun z => Value.int .i64 z).toArray
theorem iV_get {o : List Int} {j : Nat} (h : j < o.length) : (iV o)[j]? = some (.int .i64 (o.getD j 0)) := by
  simp [iV, List.getD_eq_getElem?_getD, h]
theorem iV_set (o : List Int) (j : Nat) (x : Int) : (iV o).setIfInBounds j (.int .i64 x) = iV (o.set j x) := by
  simp [iV, List.map_set]
theorem iV_zero (n : Nat) : madeCells #[.int .i64 0] n = iV (List.replicate n 0) := by
  apply Array.toList_inj.1
  rw [toList_madeCells_one]
  simp [iV]
structure OkF (o : List Int) (n : Nat) (b : Int) : Prop where
  len : o.length = n + 1
  bd : ∀ v ∈ o, 0 ≤ v ∧ v ≤ b
theorem OkF.get {o : List Int} {n : Nat} {b : Int} (h : OkF o n b) (hb : 0 ≤ b) (j : Nat) : 0 ≤ o.getD j 0 ∧ o.getD j 0 ≤ b := by
  rw [List.getD_eq_getElem?_getD]
  rcases hj : o[j]? with _ | v
  · exact ⟨Int.le_refl _, hb⟩
  · exact h.bd v (List.mem_of_getElem? hj)
theorem OkF.set {o : List Int} {n : Nat} {b : Int} (h : OkF o n b) (j : Nat) {x : Int} (hx : 0 ≤ x ∧ x ≤ b) : OkF (o.set j x) n b := ⟨by rw [List.length_set, h.len], fun v hv => by
  rcases List.mem_or_eq_of_mem_set hv with hv | rfl
  · exact h.bd v hv
  · exact hx⟩
theorem OkF.mono {o : List Int} {n : Nat} {b c : Int} (h : OkF o n b) (hc : b ≤ c) : OkF o n c := ⟨h.len, fun v hv => ⟨(h.bd v hv).1, Int.le_trans (h.bd v hv).2 hc⟩⟩
theorem OkF.mx {o : List Int} {n : Nat} {b : Int} (h : OkF o n b) (hb : 0 ≤ b) (i : Nat) (k : Int) : OkF (maxAt i o k) n b := h.set i (by have := h.get hb i; have := h.get hb k.toNat; omega)
theorem OkF.fold {n : Nat} {b : Int} (hb : 0 ≤ b) (i : Nat) : ∀ (ks : List Int) (o : List Int), OkF o n b → OkF (ks.foldl (maxAt i) o) n b
  | [], _, h => h
  | k :: ks, o, h => OkF.fold hb i ks _ (h.mx hb i k)
theorem okF_fueS (l : List Ins) : ∀ k : Nat, OkF (fueS l k) l.length k
  | 0 => ⟨by simp [fueS], fun v hv => by
    obtain ⟨_, rfl⟩ := List.mem_replicate.1 hv
    exact ⟨Int.le_refl _, Int.le_refl _⟩⟩
  | k + 1 => by
    have h := OkF.fold (Int.natCast_nonneg k) (l.length - 1 - k) (succL (xx l (l.length - 1 - k)).1 (xx l (l.length - 1 - k)).2 ((l.length - 1 - k : Nat) : Int)) _ (okF_fueS l k)
    exact (h.mono (by omega)).set _ (by have := h.get (Int.natCast_nonneg k) (l.length - 1 - k); omega)
theorem fueS_step (l : List Ins) (i : Nat) (hi : i < l.length) : fueS l (l.length - i) = fueX (xx l i) i (fueS l (l.length - (i + 1))) := by
  have e : l.length - i = (l.length - (i + 1)) + 1 := by omega
  rw [e, fueS, show l.length - 1 - (l.length - (i + 1)) = i by omega]
structure FI (w : World) (n i N Ib B : Nat) (ds : List Nat) (o : List Int) (W : World) : Prop where
  r : HasC W N (iV o) 3
  b : HasC W (N + 1) #[.slice (some ⟨N, 0, none⟩) (n + 1) (n + 1)] 72
  i : HasC W Ib #[.int .i64 (i : Nat)] 3
  m : Marks B ds W
  be : Below w.heap.size w W
theorem FI.own (w : World) (n i N Ib B : Nat) (ds : List Nat) {C : Nat} (hC : w.heap.size ≤ C) (hd : ∀ D ∈ ds, D < C) {β : Type} (f : β → List Int) : OwnFrom C (fun s W => FI w n i N Ib B ds (f s) W) := fun s X Y row h hg hr => by
  have hr' : ∀ r, row = some r → ∃ o : Obj, X.heap[r]? = some o ∧ o.isCells = false := fun r e => (hr r e).2
  exact ⟨HasC.own N _ (fun (_ : Unit) => _) () X Y row h.r hg hr', HasC.own _ _ (fun (_ : Unit) => _) () X Y row h.b hg hr', HasC.own _ _ (fun (_ : Unit) => _) () X Y row h.i hg hr', h.m.own hd hg (fun r e => (hr r e).1), ownFrom_below (β := Unit) (Nat.le_refl _) hC () X Y row h.be hg hr⟩
theorem FI.set {w : World} {n i N Ib B : Nat} {ds : List Nat} {o : List Int} {W : World} (h : FI w n i N Ib B ds o W) (hN : w.heap.size ≤ N) (hI : Ib ≠ N) (j : Nat) (x : Int) : FI w n i N Ib B ds (o.set j x) (W.setCell ⟨N, j, none⟩ (.int .i64 x)) :=
  ⟨by have := h.r.set j (.int .i64 x); rwa [iV_set] at this, h.b.other (by omega) _ _, h.i.other hI _ _, h.m.set h.r _ _, h.be.setCell (p := ⟨_, _, none⟩) (by simp; omega) _⟩
theorem FI.alloc {w : World} {n i N Ib B : Nat} {ds : List Nat} {o : List Int} {W : World} (h : FI w n i N Ib B ds o W) (x : Obj) : FI w n i N Ib B ds o (W.alloc x) :=
  ⟨h.r.alloc x, h.b.alloc x, h.i.alloc x, h.m.alloc x, h.be.alloc h.be.size x⟩
theorem FI.drew {w : World} {n i N Ib B : Nat} {ds : List Nat} {o : List Int} {W : World} (h : FI w n i N Ib B ds o W) : FI w n i N Ib B ds o W.drew := ⟨h.r, h.b, h.i, h.m, h.be.drew⟩
def OnlyN (R : Act → World → Prop) : Exit → Act → World → Prop
  | .normal, a, w => R a w
  | _, _, _ => False
theorem only_mono {R : Act → World → Prop} {Q : Exit → Act → World → Prop} (h : ∀ a w, R a w → Q .normal a w) : ∀ e a w, OnlyN R e a w → Q e a w := by
  intro e a w
  cases e <;> first | exact h a w | (intro h; exact h.elim)
def boxMu (j : Nat) (a : Act) (w : World) : Nat := match a.tmps[j]? with
  | some (.pointer (some p)) => match w.cell? p with
    | some v => (intOf v + 1).toNat
    | none => 0
  | _ => 0
set_option maxRecDepth 100000 in
set_option maxHeartbeats 8000000 in
theorem fuel_in {w : World} (l : List Ins) (lv : Value) (hl : IRow l lv w) (hc : chkS l = 0) (h100 : l.length ≤ 500)
    (hCk : ∀ W, Below w.heap.size w W → Calls Tryd.prog 27 #[lv] W fun e w' => e = .returned (.int .i64 (chkS l)) ∧ Below W.heap.size W w') :
    Calls Tryd.prog 9 #[lv] w fun e w' => e = .returned (.tuple #[.int .i64 ((fueS l l.length).getD 0 0), .int .i64 0]) ∧ Below w.heap.size w w' := by
  rw [hc] at hCk
  obtain ⟨la, lc, rfl⟩ := hl.val
  refine (callsIn_wide (n := 8)).1 ?_
  refine callsIn_of_wp_marks Tryd.func9 rfl trivial ?_ rfl
  simp only [Tryd.ntmps9, List.size_toArray, List.length_cons, List.length_nil, Nat.reduceAdd, Nat.reduceSub, Array.replicate_succ, Array.replicate_zero, List.push_toArray, List.append_toArray, List.nil_append, List.cons_append]
  have hmk := fun W => run_make_row' (P := Tryd.prog) 72 3 (.int .i64 0) 8 Tryd.underlying72 (by kernel_rfl) rfl .i64 .i64 (l.length + 1) (by omega) (by omega) W
  simp only [Int.natCast_add, Int.cast_ofNat_Int] at hmk
  gi_wp2_with (refine ⟨trivial, ?_⟩; gi_at_call 27; refine (callsIn_wide.2 (hCk _ (Below.refl _ _))).mono ?_; rintro e W1 ⟨rfl, hb1⟩)
  have hI : ∃ (W2 : World), ((W1.alloc (.cells (madeCells #[.int .i64 0] (l.length + 1)) 3)).alloc (.cells #[.slice (some ⟨W1.heap.size, 0, none⟩) (l.length + 1) (l.length + 1)] 72)) = W2 ∧ HasC W2 W1.heap.size (iV (fueS l 0)) 3 ∧ HasC W2 (W1.heap.size + 1) #[.slice (some ⟨W1.heap.size, 0, none⟩) (l.length + 1) (l.length + 1)] 72 ∧ Below W1.heap.size W1 W2 ∧ W2.heap.size = W1.heap.size + 1 + 1 := by
    refine ⟨_, rfl, ?_, ?_, ?_, by simp⟩
    · rw [iV_zero]; exact (HasC.new _ _ _).alloc _
    · have := HasC.new (W1.alloc (.cells (madeCells #[.int .i64 0] (l.length + 1)) 3)) #[.slice (some ⟨W1.heap.size, 0, none⟩) (l.length + 1) (l.length + 1)] 72
      rwa [World.size_alloc] at this
    · exact ((Below.refl _ W1).alloc (Nat.le_refl _) _).alloc (by simp) _
  obtain ⟨W2, hW2, hr2, hx2, hb2, hs2⟩ := hI
  simp only [hW2]
  have hbs := hb1.size
  have hN : w.heap.size ≤ W1.heap.size := hbs
  obtain ⟨_, hok⟩ := chkS_ok hc
  refine wpIn_loop (fun a' w' => ∃ (j Ib : Nat) (ds : List Nat) (u7 u20 u21 u22 u23 u24 u25 u26 u27 u28 u29 u30 u31 u32 u33 u34 u35 u36 u37 u38 u39 u40 u41 u42 u43 u44 u45 u46 u47 u48 u49 : Value), a' = { tmps := #[.slice la l.length lc, undef, .int .i64 0, .int .i64 0, .int .i64 0, .pointer (some ⟨W1.heap.size + 1, 0, none⟩), .pointer (some ⟨Ib, 0, none⟩), u7, .slice la l.length lc, .int .i64 0, .int .i64 0, .bool false, undef, .slice la l.length lc, .int .i64 (l.length : Nat), .int .i64 ((l.length : Nat) + 1), .slice (some ⟨W1.heap.size, 0, none⟩) (l.length + 1) (l.length + 1), .slice la l.length lc, .int .i64 (l.length : Nat), .int .i64 ((l.length : Nat) - 1), u20, u21, u22, u23, u24, u25, u26, u27, u28, u29, u30, u31, u32, u33, u34, u35, u36, u37, u38, u39, u40, u41, u42, u43, u44, u45, u46, u47, u48, u49, undef, undef, undef], defers := ds.map mark } ∧ j ≤ l.length ∧ W1.heap.size + 1 < Ib ∧ HasC w' W1.heap.size (iV (fueS l (l.length - j))) 3 ∧ HasC w' (W1.heap.size + 1) #[.slice (some ⟨W1.heap.size, 0, none⟩) (l.length + 1) (l.length + 1)] 72 ∧ HasC w' Ib #[.int .i64 ((j : Nat) - 1)] 3 ∧ Marks (W1.heap.size + 1 + 1) ds w' ∧ Below w.heap.size w w') (boxMu 6) ?start ?round
  case start =>
    refine ⟨l.length, W1.heap.size + 1 + 1, [], _, _, _, _, _, _, _, _, _, _, _, _, _, _, _, _, _, _, _, _, _, _, _, _, _, _, _, _, _, _, _, rfl, Nat.le_refl _, by omega, ?_, hx2.alloc _, ?_, ⟨List.nodup_nil, fun D hD => by cases hD⟩, ?_⟩
    · rw [Nat.sub_self]; exact hr2.alloc _
    · have := HasC.new W2 #[.int .i64 ((l.length : Nat) - 1)] 3
      rwa [hs2] at this
    · exact (hb1.trans (hb2.mono hbs)).alloc (by omega) _
  case round =>
    clear hr2 hx2 hb2 hs2 hW2
    rintro a w' ⟨j, Ib, ds, u7, u20, u21, u22, u23, u24, u25, u26, u27, u28, u29, u30, u31, u32, u33, u34, u35, u36, u37, u38, u39, u40, u41, u42, u43, u44, u45, u46, u47, u48, u49, rfl, hj, hIb, hr, hx, hi, hm, hbe⟩
    have ci := hi.cell 0 rfl
    have cx := hx.cell 0 rfl
    have hlr := hr.lt
    have hli := hi.lt
    by_cases hj0 : j = 0
    · subst hj0
      have c0 := hr.cell 0 (iV_get (by rw [(okF_fueS l _).len]; omega))
      gi_wp2
      refine leaves_marks ds w' (fun D hD => (hm.2 D hD).2) hm.1 (fun W' e1 e2 e3 e4 e5 => ?_)
      have hb9 : Below w.heap.size w' W' := ⟨e1, e2, e3, by omega, fun k hk => e5 k (fun hd => by have := (hm.2 k hd).1; omega)⟩
      exact ⟨_, by simp [results, Tryd.f9, go_sem], rfl, hbe.trans hb9⟩
    obtain ⟨i, rfl⟩ : ∃ i, j = i + 1 := ⟨j - 1, by omega⟩
    have ok := hok i (by omega)
    obtain ⟨hl9, ⟨hl0, _⟩ | ⟨lb, lo, lcap, le, hlb, hlc⟩⟩ := hl
    · omega
    simp only [Value.slice.injEq, true_and] at le
    obtain ⟨rfl, rfl⟩ := le
    obtain ⟨x0, x1⟩ := hlc i (by omega)
    have x0 : w'.cell? ⟨lb, lo + i * 2, none⟩ = some (.int .i64 (xx l i).1) := (World.cell?_of_block (hbe.block lb hlb)).trans x0
    have x1 : w'.cell? ⟨lb, lo + i * 2 + 1, none⟩ = some (.int .i64 (xx l i).2) := (World.cell?_of_block (hbe.block lb hlb)).trans x1
    obtain ⟨op, arg, hxx⟩ : ∃ op arg, xx l i = (op, arg) := ⟨_, _, rfl⟩
    rw [hxx] at x0 x1 ok
    clear hlc
    have hlb' : lb < w'.heap.size := Nat.lt_of_lt_of_le hlb hbe.size
    have hij : (((i + 1 : Nat) : Int) - 1) = (i : Nat) := by omega
    rw [hij] at ci hi
    have hil : i < l.length := by omega
    gi_wp2_with fail
    refine wpIn_mono (Q := OnlyN fun a w => a = { tmps := #[.slice (some ⟨lb, lo, none⟩) l.length lc, undef, .int .i64 0, .int .i64 0, .int .i64 0, .pointer (some ⟨W1.heap.size + 1, 0, none⟩), .pointer (some ⟨Ib, 0, none⟩), u7, .slice (some ⟨lb, lo, none⟩) l.length lc, .int .i64 0, .int .i64 0, .bool false, undef, .slice (some ⟨lb, lo, none⟩) l.length lc, .int .i64 (l.length : Nat), .int .i64 ((l.length : Nat) + 1), .slice (some ⟨W1.heap.size, 0, none⟩) (l.length + 1) (l.length + 1), .slice (some ⟨lb, lo, none⟩) l.length lc, .int .i64 (l.length : Nat), .int .i64 ((l.length : Nat) - 1), .int .i64 (i : Nat), .bool true, u22, u23, .slice (some ⟨lb, lo, none⟩) l.length lc, .int .i64 (i : Nat), .pointer (some ⟨lb, lo + i * 2, none⟩), .agg #[.int .i64 op, .int .i64 arg], .int .i64 (i : Nat), .func (.func 58) #[] #[.pointer (some ⟨w'.heap.size, 0, none⟩), .pointer (some ⟨w'.heap.size + 1, 0, none⟩)], u30, u31, u32, u33, u34, u35, u36, u37, u38, u39, u40, u41, u42, u43, u44, u45, u46, u47, u48, u49, undef, undef, undef], defers := ds.map mark } ∧ w = ((w'.alloc (.cells #[.int .i64 op, .int .i64 arg] 88)).alloc (.cells #[.int .i64 (i : Nat)] 3)).drew) ?_ (only_mono ?_)
    · gi_region_with (refine ⟨trivial, ?_⟩; gi_at_call 28; refine (callsIn_wide.2 (succ_fn _ _ _ _)).mono ?_; rintro e W3 ⟨rfl, rfl⟩)
      all_goals exact ⟨rfl, rfl⟩
    rintro a w5 ⟨rfl, hw5⟩
    have g0 : HasC w5 w'.heap.size #[.int .i64 op, .int .i64 arg] 88 := by rw [hw5]; exact (HasC.new w' _ _).alloc _
    have g1 : HasC w5 (w'.heap.size + 1) #[.int .i64 (i : Nat)] 3 := by
      rw [hw5]
      have := HasC.new (w'.alloc (.cells #[.int .i64 op, .int .i64 arg] 88)) #[.int .i64 (i : Nat)] 3
      rwa [World.size_alloc] at this
    have hs5 : w5.heap.size = w'.heap.size + 1 + 1 := by rw [hw5]; simp
    have hI0 : FI w l.length i W1.heap.size Ib (W1.heap.size + 1 + 1) ds (fueS l (l.length - (i + 1))) w5 := by
      rw [hw5]; exact (((⟨hr, hx, hi, hm, hbe⟩ : FI w l.length i W1.heap.size Ib (W1.heap.size + 1 + 1) ds (fueS l (l.length - (i + 1))) w').alloc _).alloc _).drew
    have c6 : Hid (w'.cell? ⟨Ib, 0, none⟩ = some (.int .i64 (i : Nat))) := ci
    clear hw5 hr hx hi cx ci
    have hds : ∀ D ∈ ds, D < w5.heap.size := hI0.m.lt
    have hIN : Ib ≠ W1.heap.size := by omega
    have hoF := okF_fueS l (l.length - (i + 1))
    have hFx := fueS_step l i hil
    rw [hxx] at hFx
    obtain ⟨o, ho⟩ : ∃ o, fueS l (l.length - (i + 1)) = o := ⟨_, rfl⟩
    rw [ho] at hI0 hoF hFx
    have hb500 : ((l.length - (i + 1) : Nat) : Int) ≤ 500 := by omega
    gi_wp2_with fail
    refine wpIn_rangeFunc_ownH rfl (by decide) (gf := 58) (lb := #[.pointer (some ⟨w'.heap.size, 0, none⟩), .pointer (some ⟨w'.heap.size + 1, 0, none⟩)]) rfl trivial (enters_of Tryd.func58 (by kernel_rfl) rfl)
      (encs := fun x : Fin (l.length + 1) => #[.int .i64 (x.val : Nat)]) (Kp := Kp2 w.heap.size w'.heap.size) (S := fun ys => ys.map (fun x : Fin (l.length + 1) => (x.val : Int)) = succL op arg i) (Sp := fun pre => ∃ rest, succL op arg i = pre.map (fun x : Fin (l.length + 1) => (x.val : Int)) ++ rest) (N := 2) (w0 := w5)
      (fun lp J Jx W hW hJ hJx hY h0 => succ1_in 7 (by decide) lp w'.heap.size w.heap.size op arg i (by omega) (by omega) (fun x : Fin (l.length + 1) => (x.val : Int)) (fun _ _ => ⟨⟨i + 1, by omega⟩, by simp⟩) (fun h => ⟨⟨arg.toNat, by have := ok.j h; simp at this; omega⟩, by have := ok.j h; simp at this ⊢; omega⟩) J Jx W (by have := hW.size; have := hI0.be.size; omega) (by have := hW.size; omega) hY
        ((g0.below hW (by omega)).cell 0 rfl) ((g0.below hW (by omega)).cell 1 rfl) ((g1.below hW (by omega)).cell 0 rfl) h0)
      Kp2.trans (fun W lp o o' hlp h hc hw => Kp2.putObj (w := w5) (by have := hI0.be.size; omega) (by omega) W lp o o' hlp h hc hw) (Below.refl _ _) (fun _ => rfl)
      (fun pre W => FI w l.length i W1.heap.size Ib (W1.heap.size + 1 + 1) ds ((pre.map (fun x : Fin (l.length + 1) => (x.val : Int))).foldl (maxAt i) o) W) (fun _ _ _ => False)
      (FI.own w l.length i W1.heap.size Ib (W1.heap.size + 1 + 1) ds (by have := hI0.be.size; omega) hds (fun pre : List (Fin (l.length + 1)) => (pre.map (fun x : Fin (l.length + 1) => (x.val : Int))).foldl (maxAt i) o)) (fun _ _ _ _ _ hs _ _ => hs) hI0
      (fun x a' W => a' = { tmps := #[.slice (some ⟨lb, lo, none⟩) l.length lc, undef, .int .i64 0, .int .i64 0, .int .i64 0, .pointer (some ⟨W1.heap.size + 1, 0, none⟩), .pointer (some ⟨Ib, 0, none⟩), .int .i64 (x.val : Nat), .slice (some ⟨lb, lo, none⟩) l.length lc, .int .i64 0, .int .i64 0, .bool false, undef, .slice (some ⟨lb, lo, none⟩) l.length lc, .int .i64 (l.length : Nat), .int .i64 ((l.length : Nat) + 1), .slice (some ⟨W1.heap.size, 0, none⟩) (l.length + 1) (l.length + 1), .slice (some ⟨lb, lo, none⟩) l.length lc, .int .i64 (l.length : Nat), .int .i64 ((l.length : Nat) - 1), .int .i64 (i : Nat), .bool true, u22, u23, .slice (some ⟨lb, lo, none⟩) l.length lc, .int .i64 (i : Nat), .pointer (some ⟨lb, lo + i * 2, none⟩), .agg #[.int .i64 op, .int .i64 arg], .int .i64 (i : Nat), .func (.func 58) #[] #[.pointer (some ⟨w'.heap.size, 0, none⟩), .pointer (some ⟨w'.heap.size + 1, 0, none⟩)], .int .i64 (x.val : Nat), u31, u32, u33, u34, u35, u36, u37, u38, u39, u40, u41, u42, u43, u44, u45, u46, u47, u48, u49, undef, undef, undef], defers := [] }) (fun x a' _ X Y rw' hs hg hr => hs) ?assign ?body ?done ?stop
    case assign =>
      rintro lp pre x W K hi hK
      gi_wp2
      exact hK _ _ ((KeepsOthers.refl W).from _) (Kp2.refl _ _ _) hi rfl
    case body =>
      rintro lp pre x a' W hlp ⟨r, hr⟩ hi rfl hlt
      have hoP := OkF.fold (Int.natCast_nonneg _) i (pre.map (fun x : Fin (l.length + 1) => (x.val : Int))) o hoF
      have hnx : ((pre ++ [x]).map (fun x : Fin (l.length + 1) => (x.val : Int))).foldl (maxAt i) o = maxAt i ((pre.map (fun x : Fin (l.length + 1) => (x.val : Int))).foldl (maxAt i) o) (x.val : Nat) := by rw [List.map_append, List.foldl_append, List.map_cons, List.map_nil, List.foldl_cons, List.foldl_nil]
      generalize (pre.map (fun x : Fin (l.length + 1) => (x.val : Int))).foldl (maxAt i) o = q at hi hoP hnx
      have q1 := hoP.get (Int.natCast_nonneg _) i
      have q2 := hoP.get (Int.natCast_nonneg _) x.val
      obtain ⟨xv, hxv⟩ := x
      dsimp only at q2 hnx ⊢
      have hxl : xv < l.length + 1 := hxv
      have hil1 : i < l.length + 1 := by omega
      have cb := hi.b.cell 0 rfl
      have ci := hi.i.cell 0 rfl
      have ca := hi.r.cell i (iV_get (by rw [hoP.len]; omega))
      have cx := hi.r.cell xv (iV_get (by rw [hoP.len]; omega))
      have fa := hi.r.frozen i
      obtain ⟨qa, hqa⟩ : ∃ qa, q.getD i 0 = qa := ⟨_, rfl⟩
      obtain ⟨qx, hqx⟩ : ∃ qx, q.getD xv 0 = qx := ⟨_, rfl⟩
      rw [hqa] at ca q1
      rw [hqx] at cx q2
      gi_wp2_with fail
      have hxi : (xv : Int) < (l.length : Int) + 1 := by omega
      have hii : (i : Int) < (l.length : Int) + 1 := by omega
      refine wpIn_mono (Q := OnlyN fun a w => a = { tmps := #[.slice (some ⟨lb, lo, none⟩) l.length lc, undef, .int .i64 0, .int .i64 0, .int .i64 0, .pointer (some ⟨W1.heap.size + 1, 0, none⟩), .pointer (some ⟨Ib, 0, none⟩), .int .i64 (xv : Nat), .slice (some ⟨lb, lo, none⟩) l.length lc, .int .i64 0, .int .i64 0, .bool false, undef, .slice (some ⟨lb, lo, none⟩) l.length lc, .int .i64 (l.length : Nat), .int .i64 ((l.length : Nat) + 1), .slice (some ⟨W1.heap.size, 0, none⟩) (l.length + 1) (l.length + 1), .slice (some ⟨lb, lo, none⟩) l.length lc, .int .i64 (l.length : Nat), .int .i64 ((l.length : Nat) - 1), .int .i64 (i : Nat), .bool true, u22, u23, .slice (some ⟨lb, lo, none⟩) l.length lc, .int .i64 (i : Nat), .pointer (some ⟨lb, lo + i * 2, none⟩), .agg #[.int .i64 op, .int .i64 arg], .int .i64 (i : Nat), .func (.func 58) #[] #[.pointer (some ⟨w'.heap.size, 0, none⟩), .pointer (some ⟨w'.heap.size + 1, 0, none⟩)], .int .i64 (xv : Nat), .slice (some ⟨W1.heap.size, 0, none⟩) (l.length + 1) (l.length + 1), .int .i64 (i : Nat), .slice (some ⟨W1.heap.size, 0, none⟩) (l.length + 1) (l.length + 1), .int .i64 (i : Nat), .pointer (some ⟨W1.heap.size, i, none⟩), .int .i64 qa, .slice (some ⟨W1.heap.size, 0, none⟩) (l.length + 1) (l.length + 1), .int .i64 (xv : Nat), .pointer (some ⟨W1.heap.size, xv, none⟩), .int .i64 qx, .int .i64 (max qa qx), .pointer (some ⟨W1.heap.size, i, none⟩), u43, u44, u45, u46, u47, u48, u49, undef, undef, undef], defers := [] } ∧ w = W.drew.setCell ⟨W1.heap.size, i, none⟩ (.int .i64 (max qa qx))) ?_ (only_mono ?_)
      · refine wpIn_region_reads 12 12 (· = W.drew) rfl (by kernel_rfl) (by kernel_rfl) (fun _ _ _ _ h => h) ?_
        simp only [List.take_succ_cons, List.take_zero]
        refine reads_step (v := ?vv0) (by rfl) (fun _ => trivial) ?hh0 ?rr0
        case hh0 =>
          intro w9 hw9
          obtain rfl : w9 = W.drew := hw9
          go_simp
          try with_reducible rfl
        refine reads_step (v := ?vv1) (by rfl) (fun _ => trivial) ?hh1 ?rr1
        case hh1 =>
          intro w9 hw9
          obtain rfl : w9 = W.drew := hw9
          go_simp
          try with_reducible rfl
        refine reads_step (v := ?vv2) (by rfl) (fun _ => trivial) ?hh2 ?rr2
        case hh2 =>
          intro w9 hw9
          obtain rfl : w9 = W.drew := hw9
          go_simp
          try with_reducible rfl
        refine reads_step (v := ?vv3) (by rfl) (fun _ => trivial) ?hh3 ?rr3
        case hh3 =>
          intro w9 hw9
          obtain rfl : w9 = W.drew := hw9
          go_simp
          try with_reducible rfl
        refine reads_step (v := ?vv4) (by rfl) (fun _ => trivial) ?hh4 ?rr4
        case hh4 =>
          intro w9 hw9
          obtain rfl : w9 = W.drew := hw9
          go_simp
          try with_reducible rfl
        refine reads_step (v := ?vv5) (by rfl) (fun _ => trivial) ?hh5 ?rr5
        case hh5 =>
          intro w9 hw9
          obtain rfl : w9 = W.drew := hw9
          go_simp
          try with_reducible rfl
        refine reads_step (v := ?vv6) (by rfl) (fun _ => trivial) ?hh6 ?rr6
        case hh6 =>
          intro w9 hw9
          obtain rfl : w9 = W.drew := hw9
          go_simp
          try with_reducible rfl
        refine reads_step (v := ?vv7) (by rfl) (fun _ => trivial) ?hh7 ?rr7
        case hh7 =>
          intro w9 hw9
          obtain rfl : w9 = W.drew := hw9
          go_simp
          try with_reducible rfl
        refine reads_step (v := ?vv8) (by rfl) (fun _ => trivial) ?hh8 ?rr8
        case hh8 =>
          intro w9 hw9
          obtain rfl : w9 = W.drew := hw9
          go_simp
          try with_reducible rfl
        refine reads_step (v := ?vv9) (by rfl) (fun _ => trivial) ?hh9 ?rr9
        case hh9 =>
          intro w9 hw9
          obtain rfl : w9 = W.drew := hw9
          go_simp
          try with_reducible rfl
        refine reads_max (k := .i64) (k' := .i64) (p := qa) (q := qx) (by rfl) (fun _ => trivial) _ _ _ rfl (by go_simp) (by go_simp) ?_
        refine reads_step (v := ?vv) (by rfl) (fun _ => trivial) ?hh ?rr
        case hh =>
          intro w9 hw9
          obtain rfl : w9 = W.drew := hw9
          go_simp
          try with_reducible rfl
        refine reads_nil (tail_step (c' := 0) rfl (by rfl) (fun K' hK' => ?_))
        go_simp
        exact hK' _ _ (fun h => absurd rfl h) (tail_nil rfl ⟨rfl, rfl⟩)
      rintro a w9 ⟨rfl, rfl⟩
      gi_wp2_with fail
      have hmv : maxAt i q (xv : Nat) = q.set i (max qa qx) := by unfold maxAt; rw [hqa, Int.toNat_natCast, hqx]
      have F3 := hi.drew.set hN hIN i (max qa qx)
      have hb3 : Below w.heap.size W (W.drew.setCell ⟨W1.heap.size, i, none⟩ (.int .i64 (max qa qx))) := (Below.refl _ W).drew.setCell (p := ⟨_, _, none⟩) (by simp; omega) _
      have hs5' := hi.be.size
      refine ⟨((KeepsOthers.drew W).trans (KeepsOthers.setCell W.drew _ _)).from _, ⟨hb3, fun k h1 h2 => Below.heap_setCell W.drew ⟨W1.heap.size, i, none⟩ _ k (by simp; omega)⟩, ?_⟩
      dsimp only
      rw [hnx, hmv]
      exact F3
    case done =>
      rintro D zs W hD hz hi hK
      rw [hz] at hi
      have hmx : D ∉ ds := fun h => by have := hds D h; omega
      have hoP := OkF.fold (Int.natCast_nonneg _) i (succL op arg i) o hoF
      unfold fueX at hFx
      dsimp only at hFx
      generalize (succL op arg i).foldl (maxAt i) o = q at hi hoP hFx
      have q1 := hoP.get (Int.natCast_nonneg _) i
      have hil1 : i < l.length + 1 := by omega
      have cb := hi.b.cell 0 rfl
      have ci := hi.i.cell 0 rfl
      have ca := hi.r.cell i (iV_get (by rw [hoP.len]; omega))
      have fa := hi.r.frozen i
      obtain ⟨qa, hqa⟩ : ∃ qa, q.getD i 0 = qa := ⟨_, rfl⟩
      rw [hqa] at ca q1 hFx
      gi_wp2_with fail
      have hWl := hi.b.lt
      have F2 := (hi.set hN hIN i (qa + 1)).alloc (.cells #[.int .i64 ((i : Nat) - 1)] 3)
      refine ⟨⟨i, W.heap.size, D :: ds, _, _, _, _, _, _, _, _, _, _, _, _, _, _, _, _, _, _, _, _, _, _, _, _, _, _, _, _, _, _, _, rfl, by omega, by omega, ?_, F2.b, ?_, F2.m.cons hmx (by omega) ((Below.heap_alloc _ _ _ (by simp; exact (Array.getElem?_eq_some_iff.1 hK).1)).trans (qiw hK (hi.r.ne hK) _)), F2.be⟩, ?_⟩
      · rw [hFx]; exact F2.r
      · have := HasC.new (W.setCell ⟨W1.heap.size, i, none⟩ (.int .i64 (qa + 1))) #[.int .i64 ((i : Nat) - 1)] 3
        rwa [World.size_setCell] at this
      · have c7 := (HasC.new (W.setCell ⟨W1.heap.size, i, none⟩ (.int .i64 (qa + 1))) #[.int .i64 ((i : Nat) - 1)] 3).cell 0 rfl
        rw [World.size_setCell] at c7
        simp [boxMu, c6.out, c7, intOf]
    case stop =>
      rintro D c pre W _ _ h _
      exact h.elim
end
end Go.Proofs.YtlhagkbhojmjpaaDoor
