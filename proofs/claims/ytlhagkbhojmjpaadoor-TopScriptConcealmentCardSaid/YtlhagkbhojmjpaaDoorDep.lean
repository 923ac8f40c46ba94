/- scriptverify.Depths, walked by hand. -/
import Derived.Test.YtlhagkbhojmjpaaDoorFue
namespace Go.Proofs.YtlhagkbhojmjpaaDoor
set_option linter.unusedSimpArgs false
set_option linter.unusedVariables false
set_option linter.unnecessarySimpa false
section
open Go.RowKit Go.Shelf
attribute [local go_sem] Oper.semAt_some

def popZ (k : Nat) : Int := popsZ.getD k 0
def pushZ' (k : Nat) : Int := pushZ.getD k 0
def dset (n : Nat) (af : Int) (o : List Int) (k : Int) : Option (List Int) := if k < n ∧ 0 ≤ o.getD k.toNat 0 ∧ o.getD k.toNat 0 ≠ af then none else some (o.set k.toNat af)
def dfold (n : Nat) (af : Int) (ks : List Int) (r : Option (List Int)) : Option (List Int) := ks.foldl (fun r k => r.bind fun o => dset n af o k) r
def depX (n : Nat) (x : Ins) (i : Nat) (o : List Int) : Option (List Int) :=
  if o.getD i 0 < 0 then some o
  else if o.getD i 0 < popZ x.1.toNat ∨ 16 < o.getD i 0 - popZ x.1.toNat + pushZ' x.1.toNat then none
  else dfold n (o.getD i 0 - popZ x.1.toNat + pushZ' x.1.toNat) (succL x.1 x.2 i) (some o)
def depS (l : List Ins) : Nat → Option (List Int)
  | 0 => some ((List.replicate (l.length + 1) (-1)).set 0 0)
  | k + 1 => (depS l k).bind (depX l.length (xx l k) k)
def depE (l : List Ins) : Int := if chkS l = 0 then (if (depS l l.length).isNone then 13 else 0) else chkS l

theorem gcell_of {w : World} (hG : GlobOk (mkEnv globT []) gtab w) {g : Nat} {zs : List Int} (hm : (g, false, [CT.int .i64]) ∈ gtab) (hz : globT g = ints zs) (k : Nat) (hk : k < zs.length) : g < w.heap.size ∧ w.cell? ⟨g, k, none⟩ = some (.int .i64 (zs.getD k 0)) := by
  obtain ⟨h, h0⟩ := hG g false _ hm
  rw [show (mkEnv globT []).glob g = ints zs from hz] at h h0
  have hlen : (ints zs).asList.length = zs.length := by simp [ints, TV.asList]
  generalize hv : Value.slice (some ⟨g, 0, none⟩) (ints zs).asList.length (ints zs).asList.length = v at h
  cases h with
  | empty _ _ _ a cap h1 hn hmax =>
    simp only [Value.slice.injEq] at hv
    omega
  | slice _ _ _ g' off cap cur el fr vals hM hcap hmax hc hr =>
    cases hv
    have hb : w.heap[g]? = some (.cells cur el fr) := hM
    refine ⟨(Array.getElem?_eq_some_iff.1 hb).1, ?_⟩
    have h1 := hc k (by omega) 0 (by simp)
    have h2 := hr k (by omega) 0 (by simp)
    simp only [List.length_cons, List.length_nil, Nat.zero_add, Nat.mul_one, Nat.add_zero] at h1
    simp only [List.getElem_cons_zero] at h2
    generalize vals k 0 = vv at h1 h2
    cases h2 with
    | int kk tt =>
      have e : (zbk false ((ints zs).asList[k]'(by omega)) 0).asInt = zs.getD k 0 := by
        simp [zbk, ints, TV.asList, TV.asInt, List.getD_eq_getElem?_getD, hk]
      rw [e] at h1
      simp [World.cell?, hb, h1]
structure DpI (w : World) (n : Nat) (lv : Value) (R B : Nat) (ds : List Nat) (o : List Int) (W : World) : Prop where
  b1 : HasC W w.heap.size #[lv] 22
  c2 : HasC W (w.heap.size + 1) #[.slice none 0 0] 72
  c3 : HasC W (w.heap.size + 1 + 1) #[.int .i64 0] 27
  r : HasC W R (iV o) 3
  b5 : HasC W (R + 1) #[.slice (some ⟨R, 0, none⟩) (n + 1) (n + 1)] 72
  m : Marks B ds W
  be : Below w.heap.size w W
theorem DpI.set {w : World} {n : Nat} {lv : Value} {R B : Nat} {ds : List Nat} {o : List Int} {W : World} (h : DpI w n lv R B ds o W) (hR : w.heap.size + 1 + 1 < R) (j : Nat) (x : Int) : DpI w n lv R B ds (o.set j x) (W.setCell ⟨R, j, none⟩ (.int .i64 x)) :=
  ⟨h.b1.other (by omega) _ _, h.c2.other (by omega) _ _, h.c3.other (by omega) _ _, by have := h.r.set j (.int .i64 x); rwa [iV_set] at this, h.b5.other (by omega) _ _, h.m.set h.r _ _, h.be.setCell (p := ⟨_, _, none⟩) (by simp; omega) _⟩
theorem DpI.alloc {w : World} {n : Nat} {lv : Value} {R B : Nat} {ds : List Nat} {o : List Int} {W : World} (h : DpI w n lv R B ds o W) (x : Obj) : DpI w n lv R B ds o (W.alloc x) :=
  ⟨h.b1.alloc x, h.c2.alloc x, h.c3.alloc x, h.r.alloc x, h.b5.alloc x, h.m.alloc x, h.be.alloc h.be.size x⟩
theorem DpI.drew {w : World} {n : Nat} {lv : Value} {R B : Nat} {ds : List Nat} {o : List Int} {W : World} (h : DpI w n lv R B ds o W) : DpI w n lv R B ds o W.drew := ⟨h.b1, h.c2, h.c3, h.r, h.b5, h.m, h.be.drew⟩
theorem DpI.own (w : World) (n : Nat) (lv : Value) (R B : Nat) (ds : List Nat) {C : Nat} (hC : w.heap.size ≤ C) (hd : ∀ D ∈ ds, D < C) {β : Type} (f : β → List Int) : OwnFrom C (fun s W => DpI w n lv R B ds (f s) W) := fun s X Y row h hg hr => by
  have hr' : ∀ r, row = some r → ∃ o : Obj, X.heap[r]? = some o ∧ o.isCells = false := fun r e => (hr r e).2
  exact ⟨HasC.own _ _ (fun (_ : Unit) => _) () X Y row h.b1 hg hr', HasC.own _ _ (fun (_ : Unit) => _) () X Y row h.c2 hg hr', HasC.own _ _ (fun (_ : Unit) => _) () X Y row h.c3 hg hr', HasC.own _ _ (fun (_ : Unit) => _) () X Y row h.r hg hr', HasC.own _ _ (fun (_ : Unit) => _) () X Y row h.b5 hg hr', h.m.own hd hg (fun r e => (hr r e).1), ownFrom_below (β := Unit) (Nat.le_refl _) hC () X Y row h.be hg hr⟩
theorem dep_end {w W : World} {l : List Ins} {tmps : Array Value} {ds : List Nat} {B : Nat} {v : Value} {z : Int} (h2 : tmps[2]? = some (.pointer (some ⟨w.heap.size + 1, 0, none⟩))) (h3 : tmps[3]? = some (.pointer (some ⟨w.heap.size + 1 + 1, 0, none⟩)))
    (c2 : HasC W (w.heap.size + 1) #[v] 72) (c3 : HasC W (w.heap.size + 1 + 1) #[.int .i64 z] 27) (hm : Marks B ds W) (hB : w.heap.size ≤ B) (be : Below w.heap.size w W) (hz : z = depE l) :
    bodyPostM Fence.wide 8 Tryd.prog Tryd.f26 (fun e w' => (∃ v, e = .returned (.tuple #[v, .int .i64 (depE l)])) ∧ Below w.heap.size w w') .ret { tmps := tmps, defers := ds.map mark } W := by
  refine leaves_marks ds W (fun D hD => (hm.2 D hD).2) hm.1 (fun W' e1 e2 e3 e4 e5 => ?_)
  have hb9 : Below w.heap.size W W' := ⟨e1, e2, e3, by omega, fun k hk => e5 k (fun hd => by have := (hm.2 k hd).1; omega)⟩
  have d2 : W'.heap[w.heap.size + 1]? = _ := (e5 _ (fun hd => c2.ne (hm.2 _ hd).2 rfl)).trans c2
  have d3 : W'.heap[w.heap.size + 1 + 1]? = _ := (e5 _ (fun hd => c3.ne (hm.2 _ hd).2 rfl)).trans c3
  have q2 := HasC.cell (W := W') d2 0 rfl
  have q3 := HasC.cell (W := W') d3 0 rfl
  have t2 : tmps[2]! = .pointer (some ⟨w.heap.size + 1, 0, none⟩) := by rw [Array.getElem!_eq_getD, Array.getD_eq_getD_getElem?, h2]; rfl
  have t3 : tmps[3]! = .pointer (some ⟨w.heap.size + 1 + 1, 0, none⟩) := by rw [Array.getElem!_eq_getD, Array.getD_eq_getD_getElem?, h3]; rfl
  refine ⟨.tuple #[v, .int .i64 z], by simp [results, Tryd.f26, go_sem, h2, h3, t2, t3, q2, q3], ⟨v, by rw [hz]⟩, be.trans hb9⟩
structure OkD (o : List Int) (n : Nat) : Prop where
  len : o.length = n + 1
  bd : ∀ v ∈ o, -1 ≤ v ∧ v ≤ 16
theorem OkD.get {o : List Int} {n : Nat} (h : OkD o n) (j : Nat) : -1 ≤ o.getD j 0 ∧ o.getD j 0 ≤ 16 := by
  rw [List.getD_eq_getElem?_getD]
  rcases hj : o[j]? with _ | v
  · exact ⟨by decide, by decide⟩
  · exact h.bd v (List.mem_of_getElem? hj)
theorem OkD.set {o : List Int} {n : Nat} (h : OkD o n) (j : Nat) {x : Int} (hx : -1 ≤ x ∧ x ≤ 16) : OkD (o.set j x) n := ⟨by rw [List.length_set, h.len], fun v hv => by
  rcases List.mem_or_eq_of_mem_set hv with hv | rfl
  · exact h.bd v hv
  · exact hx⟩
theorem okD_zero (n : Nat) : OkD ((List.replicate (n + 1) (-1)).set 0 0) n := OkD.set ⟨by simp, fun v hv => by obtain ⟨_, rfl⟩ := List.mem_replicate.1 hv; exact ⟨by decide, by decide⟩⟩ 0 (by decide)
theorem depS_none {l : List Ins} {k : Nat} (h : depS l k = none) : ∀ {m : Nat}, k ≤ m → depS l m = none := by
  intro m hm
  induction m with
  | zero => rw [show k = 0 by omega] at h; exact h
  | succ m ih =>
    by_cases e : k = m + 1
    · rw [← e]; exact h
    · rw [depS, ih (by omega)]; rfl
theorem dfold_append (n : Nat) (af : Int) (a b : List Int) (r : Option (List Int)) : dfold n af (a ++ b) r = dfold n af b (dfold n af a r) := List.foldl_append
theorem dfold_none (n : Nat) (af : Int) : ∀ b : List Int, dfold n af b none = none
  | [] => rfl
  | _ :: b => dfold_none n af b
def DepI (w W1 : World) (C n : Nat) (lb lo lc A : Nat) (ds : List Nat) (af : Int) (r : Option (List Int)) (W : World) : Prop :=
  ∃ q, r = some q ∧ OkD q n ∧ DpI w n (.slice (some ⟨lb, lo, none⟩) n lc) W1.heap.size (W1.heap.size + 1 + 1) ds q W ∧ HasC W A #[.int .i64 af] 3
theorem DepI.own {w W1 : World} {C n lb lo lc A : Nat} {ds : List Nat} {af : Int} {B : Nat} (hC : w.heap.size ≤ B) (hd : ∀ D ∈ ds, D < B) {β : Type} (f : β → Option (List Int)) : OwnFrom B (fun s W => DepI w W1 C n lb lo lc A ds af (f s) W) := fun s X Y row h hg hr => by
  obtain ⟨q, h1, h2, h3, h4⟩ := h
  exact ⟨q, h1, h2, DpI.own w n _ _ _ ds hC hd (β := Unit) (fun _ => q) () X Y row h3 hg hr, HasC.own _ _ (fun (_ : Unit) => _) () X Y row h4 hg (fun r e => (hr r e).2)⟩
structure DepX (w W1 : World) (ds : List Nat) (W : World) : Prop where
  c2 : HasC W (w.heap.size + 1) #[.slice none 0 0] 72
  c3 : HasC W (w.heap.size + 1 + 1) #[.int .i64 13] 27
  m : Marks (W1.heap.size + 1 + 1) ds W
  be : Below w.heap.size w W
theorem DepX.own {w W1 : World} {ds : List Nat} {B : Nat} (hC : w.heap.size ≤ B) (hd : ∀ D ∈ ds, D < B) {β : Type} : OwnFrom B (fun (_ : β) W => DepX w W1 ds W) := fun s X Y row h hg hr => by
  have hr' : ∀ r, row = some r → ∃ o : Obj, X.heap[r]? = some o ∧ o.isCells = false := fun r e => (hr r e).2
  exact ⟨HasC.own _ _ (fun (_ : Unit) => _) () X Y row h.c2 hg hr', HasC.own _ _ (fun (_ : Unit) => _) () X Y row h.c3 hg hr', h.m.own hd hg (fun r e => (hr r e).1), ownFrom_below (β := Unit) (Nat.le_refl _) hC () X Y row h.be hg hr⟩
def DLoop (w W1 : World) (l : List Ins) (la : Option Addr) (lc : Nat) (u6 u24 u25 u26 u27 u28 : Value) (a' : Act) (w' : World) : Prop :=
  ∃ (i : Nat) (ds : List Nat) (o : List Int) (v7 v8 v9 v10 v34 v35 v36 v37 v38 v39 v40 v41 v42 v43 v44 v45 v46 v47 v48 v49 v50 v51 v52 v53 v54 v55 v56 v57 v58 v59 v60 v61 v62 v63 v64 v65 v66 v67 v68 v69 v70 v71 v72 v73 v74 v75 v76 v77 v78 v79 v80 v81 v82 v83 v84 v85 v86 v87 v88 v89 v90 v91 v92 v93 v94 v95 v96 v97 : Value), a' = { tmps := #[.slice la l.length lc, .pointer (some ⟨w.heap.size, 0, none⟩), .pointer (some ⟨w.heap.size + 1, 0, none⟩), .pointer (some ⟨w.heap.size + 1 + 1, 0, none⟩), .int .i64 0, .pointer (some ⟨W1.heap.size + 1, 0, none⟩), u6, v7, v8, v9, v10, .slice la l.length lc, .int .i64 0, .int .i64 0, .bool false, undef, .slice la l.length lc, .int .i64 (l.length : Nat), .int .i64 ((l.length : Nat) + 1), .slice (some ⟨W1.heap.size, 0, none⟩) (l.length + 1) (l.length + 1), .slice (some ⟨W1.heap.size, 0, none⟩) (l.length + 1) (l.length + 1), .int .i64 ((l.length : Nat) + 1), .int .i64 ((l.length + 1 : Nat) : Int), .bool false, u24, u25, u26, u27, u28, .slice (some ⟨W1.heap.size, 0, none⟩) (l.length + 1) (l.length + 1), .pointer (some ⟨W1.heap.size, 0, none⟩), .slice la l.length lc, .int .i64 (l.length : Nat), .int .i64 (i : Nat), v34, v35, v36, v37, v38, v39, v40, v41, v42, v43, v44, v45, v46, v47, v48, v49, v50, v51, v52, v53, v54, v55, v56, v57, v58, v59, v60, v61, v62, v63, v64, v65, v66, v67, v68, v69, v70, v71, v72, v73, v74, v75, v76, v77, v78, v79, v80, v81, v82, v83, v84, v85, v86, v87, v88, v89, v90, v91, v92, v93, v94, v95, v96, v97, undef, undef, undef, undef, undef, undef], defers := ds.map mark } ∧ i ≤ l.length ∧ depS l i = some o ∧ OkD o l.length ∧ DpI w l.length (.slice la l.length lc) W1.heap.size (W1.heap.size + 1 + 1) ds o w'
def slotMu (j n : Nat) (a : Act) (w : World) : Nat := match a.tmps[j]? with
  | some v => n - (intOf v).toNat
  | none => 0
def msetZ (n i : Nat) : List Int := List.replicate i (-1) ++ List.replicate (n + 1 - i) 0
theorem msetZ_len (n i : Nat) (h : i ≤ n + 1) : (msetZ n i).length = n + 1 := by simp [msetZ]; omega
theorem msetZ_set (n i : Nat) (h : i < n + 1) : (msetZ n i).set i (-1) = msetZ n (i + 1) := by
  unfold msetZ
  rw [List.set_append_right _ _ (by simp), List.length_replicate, Nat.sub_self, show n + 1 - i = (n + 1 - (i + 1)) + 1 by omega, List.replicate_succ, List.set_cons_zero, List.replicate_succ', List.append_assoc]
  rfl
set_option maxRecDepth 100000 in
set_option maxHeartbeats 8000000 in
theorem depths_in {w : World} (hG : GlobOk (mkEnv globT []) gtab w) (l : List Ins) (lv : Value) (hl : IRow l lv w)
    (hCk : ∀ W, Below w.heap.size w W → Calls Tryd.prog 27 #[lv] W fun e w' => e = .returned (.int .i64 (chkS l)) ∧ Below W.heap.size W w') :
    Calls Tryd.prog 26 #[lv] w fun e w' => (∃ v, e = .returned (.tuple #[v, .int .i64 (depE l)])) ∧ Below w.heap.size w w' := by
  obtain ⟨la, lc, rfl⟩ := hl.val
  refine (callsIn_wide (n := 8)).1 ?_
  refine callsIn_of_wp_marks Tryd.func26 rfl trivial ?_ rfl
  simp only [Tryd.ntmps26, List.size_toArray, List.length_cons, List.length_nil, Nat.reduceAdd, Nat.reduceSub, Array.replicate_succ, Array.replicate_zero, List.push_toArray, List.append_toArray, List.nil_append, List.cons_append]
  have hmk := fun (hh : l.length ≤ 500) W => run_make_row' (P := Tryd.prog) 72 3 (.int .i64 0) 8 Tryd.underlying72 (by kernel_rfl) rfl .i64 .i64 (l.length + 1) (by omega) (by omega) W
  simp only [Int.natCast_add, Int.cast_ofNat_Int] at hmk
  gi_wp2_with fail
  refine ⟨trivial, ?_⟩
  generalize hW0 : ((w.alloc (.cells #[.slice la l.length lc] 22)).alloc (.cells #[.slice none 0 0] 72)).alloc (.cells #[.int .i64 0] 27) = W0
  have hB0 : Below w.heap.size w W0 := by rw [← hW0]; exact (((Below.refl _ w).alloc (by simp) _).alloc (by simp) _).alloc (by simp; omega) _
  have f1 : HasC W0 w.heap.size #[.slice la l.length lc] 22 := by rw [← hW0]; exact ((HasC.new w _ _).alloc _).alloc _
  have f2 : HasC W0 (w.heap.size + 1) #[.slice none 0 0] 72 := by
    rw [← hW0]
    have := HasC.new (w.alloc (.cells #[.slice la l.length lc] 22)) #[.slice none 0 0] 72
    rw [World.size_alloc] at this
    exact this.alloc _
  have f3 : HasC W0 (w.heap.size + 1 + 1) #[.int .i64 0] 27 := by
    rw [← hW0]
    have := HasC.new ((w.alloc (.cells #[.slice la l.length lc] 22)).alloc (.cells #[.slice none 0 0] 72)) #[.int .i64 0] 27
    rwa [World.size_alloc, World.size_alloc] at this
  clear hW0
  refine (callsIn_wide.2 (hCk W0 hB0)).mono ?_
  rintro e W1 ⟨rfl, hb1⟩
  have hB1 := hB0.trans (hb1.mono hB0.size)
  have k1 := f1.below hb1 f1.lt
  have k2 := f2.below hb1 f2.lt
  have k3 := f3.below hb1 f3.lt
  have hs1 := k3.lt
  clear f1 f2 f3 hb1 hB0
  have c1 := k1.cell 0 rfl
  have c2 := k2.cell 0 rfl
  have z2 := k2.frozen 0
  have c3 := k3.cell 0 rfl
  have z3 := k3.frozen 0
  by_cases hc : chkS l = 0
  case neg =>
    clear hmk
    have hcb : (chkS l != 0) = true := by simp [hc]
    gi_wp2_with fail
    refine dep_end (l := l) (ds := []) (B := w.heap.size) rfl rfl ((k2.set 0 (.slice none 0 0)).other (by omega) _ _) (by have := (k3.other (B' := w.heap.size + 1) (by omega) 0 (.slice none 0 0)).set 0 (.int .i64 (chkS l)); exact this) ⟨List.nodup_nil, fun D hD => by cases hD⟩ (Nat.le_refl _) ((hB1.setCell (p := ⟨_, _, none⟩) (by simp) _).setCell (p := ⟨_, _, none⟩) (by simp; omega) _) (by unfold depE; rw [if_neg hc])
  obtain ⟨h500, hok⟩ := chkS_ok hc
  have hmk := hmk h500
  rw [hc]
  gi_wp2_with fail
  obtain ⟨W2, hW2, hI0, hs2⟩ : ∃ W2, ((W1.alloc (.cells (madeCells #[.int .i64 0] (l.length + 1)) 3)).alloc (.cells #[.slice (some ⟨W1.heap.size, 0, none⟩) (l.length + 1) (l.length + 1)] 72)) = W2 ∧ DpI w l.length (.slice la l.length lc) W1.heap.size (W1.heap.size + 1 + 1) [] (msetZ l.length 0) W2 ∧ W2.heap.size = W1.heap.size + 1 + 1 := by
    refine ⟨_, rfl, ⟨(k1.alloc _).alloc _, (k2.alloc _).alloc _, (k3.alloc _).alloc _, ?_, ?_, ⟨List.nodup_nil, fun D hD => by cases hD⟩, ?_⟩, by simp⟩
    · rw [iV_zero, show List.replicate (l.length + 1) (0 : Int) = msetZ l.length 0 by simp [msetZ]]; exact (HasC.new _ _ _).alloc _
    · have := HasC.new (W1.alloc (.cells (madeCells #[.int .i64 0] (l.length + 1)) 3)) #[.slice (some ⟨W1.heap.size, 0, none⟩) (l.length + 1) (l.length + 1)] 72
      rwa [World.size_alloc] at this
    · exact (hB1.alloc hB1.size _).alloc (by have := hB1.size; simp; omega) _
  simp only [hW2]
  have hN : w.heap.size ≤ W1.heap.size := hB1.size
  clear hW2 k1 k2 k3 c1 c2 c3 z2 z3
  have hR : w.heap.size + 1 + 1 < W1.heap.size := hs1
  gi_loopw [22] (fun p wr => ∃ i : Nat, i ≤ l.length + 1 ∧ p = .int .i64 (i : Nat) ∧ DpI w l.length (.slice la l.length lc) W1.heap.size (W1.heap.size + 1 + 1) [] (msetZ l.length i) wr) (fun p _ => l.length + 1 - (intOf p).toNat)
  case atStart => exact ⟨0, Nat.zero_le _, rfl, hI0⟩
  case round =>
    obtain ⟨i, hi, rfl, hD⟩ := hrel
    have c5 := hD.b5.cell 0 rfl
    by_cases hlt : i < l.length + 1
    · have ca := hD.r.cell i (iV_get (by rw [msetZ_len _ _ hi]; exact hlt))
      have fa := hD.r.frozen i
      have hlz : (i : Int) < (l.length : Int) + 1 := by omega
      gi_wp2_with fail
      go_roundw
      case rel => exact ⟨i + 1, by omega, by go_num, by have := hD.set hR i (-1); rwa [msetZ_set _ _ hlt] at this⟩
      case measure => simp [intOf]; omega
    · obtain rfl : i = l.length + 1 := by omega
      have c0 := hD.r.cell 0 (iV_get (by rw [msetZ_len _ _ hi]; omega))
      have f0 := hD.r.frozen 0
      have c1 := hD.b1.cell 0 rfl
      have hne15 : ¬ (w.heap.size = W1.heap.size) := by omega
      -- MAIN LOOP
      gi_wp2_with fail
      have hD0 := hD.set hR 0 0
      refine wpIn_loop (DLoop w W1 l la lc u6 u24 u25 u26 u27 u28) (slotMu 33 l.length) ?start ?round
      case start => exact ⟨0, [], _, _, _, _, _, _, _, _, _, _, _, _, _, _, _, _, _, _, _, _, _, _, _, _, _, _, _, _, _, _, _, _, _, _, _, _, _, _, _, _, _, _, _, _, _, _, _, _, _, _, _, _, _, _, _, _, _, _, _, _, _, _, _, _, _, _, _, _, _, rfl, Nat.zero_le _, by rw [depS], okD_zero _, by simpa [msetZ] using hD0⟩
      case round =>
        clear hD0 hD hI0 c5 c0 f0 c1 hi
        rintro a w' hrel
        obtain ⟨i, ds, o, v7, v8, v9, v10, v34, v35, v36, v37, v38, v39, v40, v41, v42, v43, v44, v45, v46, v47, v48, v49, v50, v51, v52, v53, v54, v55, v56, v57, v58, v59, v60, v61, v62, v63, v64, v65, v66, v67, v68, v69, v70, v71, v72, v73, v74, v75, v76, v77, v78, v79, v80, v81, v82, v83, v84, v85, v86, v87, v88, v89, v90, v91, v92, v93, v94, v95, v96, v97, rfl, hi, hds, hok', hD⟩ := hrel
        have c1 := hD.b1.cell 0 rfl
        have c5 := hD.b5.cell 0 rfl
        have c2 := hD.c2.cell 0 rfl
        have z2 := hD.c2.frozen 0
        have c3 := hD.c3.cell 0 rfl
        have z3 := hD.c3.frozen 0
        have hlR := hD.b5.lt
        by_cases hlt : i < l.length
        case neg =>
          obtain rfl : i = l.length := by omega
          gi_wp2_with fail
          refine dep_end (l := l) (z := 0) (ds := ds) (B := W1.heap.size + 1 + 1) rfl rfl ((hD.c2.set 0 _).other (by omega) _ _) ((hD.c3.other (B' := w.heap.size + 1) (by omega) 0 _).set' 0 (.int .i64 0) rfl) ((hD.m.set hD.c2 _ _).set (hD.c3.other (by omega) _ _) _ _) (by omega) ((hD.be.setCell (p := ⟨_, _, none⟩) (by simp) _).setCell (p := ⟨_, _, none⟩) (by simp; omega) _) (by unfold depE; rw [if_pos hc, hds]; try rfl)
        have ok := hok i hlt
        obtain ⟨hl9, ⟨hl0, _⟩ | ⟨lb, lo, lcap, le, hlb, hlc⟩⟩ := hl
        · omega
        simp only [Value.slice.injEq, true_and] at le
        obtain ⟨rfl, rfl⟩ := le
        obtain ⟨x0, x1⟩ := hlc i hlt
        have x0 : w'.cell? ⟨lb, lo + i * 2, none⟩ = some (.int .i64 (xx l i).1) := (World.cell?_of_block (hD.be.block lb hlb)).trans x0
        have x1 : w'.cell? ⟨lb, lo + i * 2 + 1, none⟩ = some (.int .i64 (xx l i).2) := (World.cell?_of_block (hD.be.block lb hlb)).trans x1
        obtain ⟨op', arg, hxx⟩ : ∃ op arg, xx l i = (op, arg) := ⟨_, _, rfl⟩
        rw [hxx] at x0 x1 ok
        obtain ⟨op, rfl⟩ : ∃ k : Nat, op' = k := ⟨op'.toNat, by have := ok.o0; simp at this; omega⟩
        have hop : op < 21 := by have := ok.o1; simp at this; omega
        have hop' : (op : Int) < 21 := by omega
        clear hlc
        have hlb' : lb < w'.heap.size := Nat.lt_of_lt_of_le hlb hD.be.size
        obtain ⟨oi, hoi⟩ : ∃ oi, o.getD i 0 = oi := ⟨_, rfl⟩
        have hoib := hok'.get i
        rw [hoi] at hoib
        have ca := hD.r.cell i (iV_get (by rw [hok'.len]; omega))
        rw [hoi] at ca
        have hin : (i : Int) < (l.length : Int) := by omega
        have hin1 : (i : Int) < (l.length : Int) + 1 := by omega
        have hDx := hD.alloc (.cells #[.int .i64 (op : Nat), .int .i64 arg] 88)
        have cxa := hDx.r.cell i (iV_get (by rw [hok'.len]; omega))
        rw [hoi] at cxa
        have c5a := hDx.b5.cell 0 rfl
        have hstep : depS l (i + 1) = depX l.length ((op : Int), arg) i o := by rw [depS, hds, hxx]; rfl
        by_cases hneg : oi < 0
        · gi_wp2_with fail
          refine ⟨⟨i + 1, ds, o, _, _, _, _, _, _, _, _, _, _, _, _, _, _, _, _, _, _, _, _, _, _, _, _, _, _, _, _, _, _, _, _, _, _, _, _, _, _, _, _, _, _, _, _, _, _, _, _, _, _, _, _, _, _, _, _, _, _, _, _, _, _, _, _, _, _, _, _, rfl, by omega, by rw [hstep]; unfold depX; rw [if_pos (by rw [hoi]; exact hneg)], hok', hDx⟩, by simp [slotMu, intOf]; omega⟩
        obtain ⟨hg0, g0⟩ := gcell_of (hG) (g := 0) (zs := popsZ) (by simp [gtab]) rfl op (by rw [show popsZ.length = 21 from rfl]; exact hop)
        obtain ⟨hg1, g1⟩ := gcell_of (hG) (g := 1) (zs := pushZ) (by simp [gtab]) rfl op (by rw [show pushZ.length = 21 from rfl]; exact hop)
        have hpz : (0 : Int) ≤ popZ op ∧ popZ op ≤ 2 := (show ∀ k : Fin 21, (0 : Int) ≤ popZ k.val ∧ popZ k.val ≤ 2 by decide) ⟨op, hop⟩
        have hqz : (0 : Int) ≤ pushZ' op ∧ pushZ' op ≤ 2 := (show ∀ k : Fin 21, (0 : Int) ≤ pushZ' k.val ∧ pushZ' k.val ≤ 2 by decide) ⟨op, hop⟩
        unfold depX at hstep
        dsimp only at hstep
        rw [hoi, if_neg hneg, Int.toNat_natCast] at hstep
        change _ = some (Value.int .i64 (popZ op)) at g0
        change _ = some (Value.int .i64 (pushZ' op)) at g1
        generalize popZ op = pz at g0 hpz hstep
        generalize pushZ' op = qz at g1 hqz hstep
        have hX := HasC.new w' #[.int .i64 (op : Nat), .int .i64 arg] 88
        have hge : (0 : Int) ≤ oi := by omega
        gi_wp2_with fail
        obtain ⟨W3, hW3⟩ : ∃ W3, w'.alloc (.cells #[.int .i64 (op : Nat), .int .i64 arg] 88) = W3 := ⟨_, rfl⟩
        have hs3 : W3.heap.size = w'.heap.size + 1 := by rw [← hW3]; simp
        rw [hW3] at hX hDx cxa c5a ⊢
        clear hW3
        have k0 : W3.cell? ⟨0, op, none⟩ = some (.int .i64 pz) := (World.cell?_of_block (hDx.be.block _ hg0)).trans g0
        have k1 : W3.cell? ⟨1, op, none⟩ = some (.int .i64 qz) := (World.cell?_of_block (hDx.be.block _ hg1)).trans g1
        have wr1 : IntKind.i64.wrap (oi - pz) = oi - pz := wrap_i64 (by omega) (by omega)
        have wr2 : IntKind.i64.wrap (oi - pz + qz) = oi - pz + qz := wrap_i64 (by omega) (by omega)
        obtain ⟨W4, hW4⟩ : ∃ W4, W3.drew.alloc (.cells #[.int .i64 0] 3) = W4 := ⟨_, rfl⟩
        obtain ⟨W5, hW5⟩ : ∃ W5, W3.drew.alloc (.cells #[.int .i64 (oi - pz + qz)] 3) = W5 := ⟨_, rfl⟩
        have hgs3 := hDx.be.size
        have rd : ∀ w9, (w9 = W3.drew ∨ w9 = W4) → w9.cell? ⟨W1.heap.size + 1, 0, none⟩ = some (.slice (some ⟨W1.heap.size, 0, none⟩) (l.length + 1) (l.length + 1)) ∧ w9.cell? ⟨W1.heap.size, i, none⟩ = some (.int .i64 oi) ∧ w9.cell? ⟨w'.heap.size, 0, none⟩ = some (.int .i64 (op : Nat)) ∧ w9.cell? ⟨0, op, none⟩ = some (.int .i64 pz) ∧ w9.cell? ⟨1, op, none⟩ = some (.int .i64 qz) := by
          rintro w9 (rfl | rfl)
          · exact ⟨c5a, cxa, hX.cell 0 rfl, k0, k1⟩
          · subst hW4
            have q1 := (hDx.drew.alloc (.cells #[.int .i64 0] 3)).b5.cell 0 rfl
            have q2 := ((hDx.drew.alloc (.cells #[.int .i64 0] 3)).r.cell i (iV_get (by rw [hok'.len]; omega)))
            rw [hoi] at q2
            have hbw := Below.heap_alloc W3.drew (.cells #[.int .i64 0] 3)
            exact ⟨q1, q2, (World.cell?_of_block (hbw w'.heap.size (by simp [hs3]))).trans (hX.cell 0 rfl), (World.cell?_of_block (hbw _ (by simp; omega))).trans k0, (World.cell?_of_block (hbw _ (by simp; omega))).trans k1⟩
        refine wpIn_mono (Q := OnlyN fun a wz => a = { tmps := #[.slice (some ⟨lb, lo, none⟩) l.length lc, .pointer (some ⟨w.heap.size, 0, none⟩), .pointer (some ⟨w.heap.size + 1, 0, none⟩), .pointer (some ⟨w.heap.size + 1 + 1, 0, none⟩), .int .i64 0, .pointer (some ⟨W1.heap.size + 1, 0, none⟩), u6, .int .i64 (i : Nat), (.pointer (some ⟨w'.heap.size, 0, none⟩)), .pointer (some ⟨(w'.heap.size + 1), 0, none⟩), v10, .slice (some ⟨lb, lo, none⟩) l.length lc, .int .i64 0, .int .i64 0, .bool false, undef, .slice (some ⟨lb, lo, none⟩) l.length lc, .int .i64 (l.length : Nat), .int .i64 ((l.length : Nat) + 1), .slice (some ⟨W1.heap.size, 0, none⟩) (l.length + 1) (l.length + 1), .slice (some ⟨W1.heap.size, 0, none⟩) (l.length + 1) (l.length + 1), .int .i64 ((l.length : Nat) + 1), .int .i64 ((l.length + 1 : Nat) : Int), .bool false, u24, u25, u26, u27, u28, .slice (some ⟨W1.heap.size, 0, none⟩) (l.length + 1) (l.length + 1), .pointer (some ⟨W1.heap.size, 0, none⟩), .slice (some ⟨lb, lo, none⟩) l.length lc, .int .i64 (l.length : Nat), .int .i64 (i : Nat), .bool true, .int .i64 (i : Nat), .pointer (some ⟨lb, lo + i * 2, none⟩), .agg #[.int .i64 (op : Nat), .int .i64 arg], .slice (some ⟨W1.heap.size, 0, none⟩) (l.length + 1) (l.length + 1), .int .i64 (i : Nat), .pointer (some ⟨W1.heap.size, i, none⟩), .int .i64 oi, .bool false, .slice (some ⟨W1.heap.size, 0, none⟩) (l.length + 1) (l.length + 1), .int .i64 (i : Nat), .pointer (some ⟨W1.heap.size, i, none⟩), .int .i64 oi, .pointer (some ⟨w'.heap.size, 0, none⟩), .int .i64 (op : Nat), .pointer (some ⟨0, op, none⟩), .int .i64 pz, .int .i64 (oi - pz), .pointer (some ⟨w'.heap.size, 0, none⟩), .int .i64 (op : Nat), .pointer (some ⟨1, op, none⟩), .int .i64 qz, .int .i64 (oi - pz + qz), v57, v58, v59, v60, v61, v62, v63, v64, v65, v66, v67, v68, v69, v70, v71, v72, v73, v74, v75, v76, v77, v78, v79, v80, v81, v82, v83, v84, v85, v86, v87, v88, v89, v90, v91, v92, v93, v94, v95, v96, v97, undef, undef, undef, undef, undef, undef], defers := ds.map mark } ∧ wz = W5) ?_ (only_mono ?_)
        · refine wpIn_region_reads 14 15 (fun w9 => w9 = W3.drew ∨ w9 = W4) (.inl rfl) (by kernel_rfl) (by kernel_rfl) (fun _ _ _ _ h => h) ?_
          simp only [List.take_succ_cons, List.take_zero]
          refine reads_step (v := ?vv1) (by rfl) (fun _ => trivial) ?hh1 ?rr1
          case hh1 =>
            intro w9 hw9
            obtain ⟨r1, r2, r3, r4, r5⟩ := rd w9 hw9
            go_simp
            try with_reducible rfl
          refine reads_step (v := ?vv2) (by rfl) (fun _ => trivial) ?hh2 ?rr2
          case hh2 =>
            intro w9 hw9
            obtain ⟨r1, r2, r3, r4, r5⟩ := rd w9 hw9
            go_simp
            try with_reducible rfl
          refine reads_step (v := ?vv3) (by rfl) (fun _ => trivial) ?hh3 ?rr3
          case hh3 =>
            intro w9 hw9
            obtain ⟨r1, r2, r3, r4, r5⟩ := rd w9 hw9
            go_simp
            try with_reducible rfl
          refine reads_step (v := ?vv4) (by rfl) (fun _ => trivial) ?hh4 ?rr4
          case hh4 =>
            intro w9 hw9
            obtain ⟨r1, r2, r3, r4, r5⟩ := rd w9 hw9
            go_simp
            try with_reducible rfl
          refine reads_step (v := ?vv5) (by rfl) (fun _ => trivial) ?hh5 ?rr5
          case hh5 =>
            intro w9 hw9
            obtain ⟨r1, r2, r3, r4, r5⟩ := rd w9 hw9
            go_simp
            try with_reducible rfl
          refine reads_step (v := ?vv6) (by rfl) (fun _ => trivial) ?hh6 ?rr6
          case hh6 =>
            intro w9 hw9
            obtain ⟨r1, r2, r3, r4, r5⟩ := rd w9 hw9
            go_simp
            try with_reducible rfl
          refine reads_step (v := ?vv7) (by rfl) (fun _ => trivial) ?hh7 ?rr7
          case hh7 =>
            intro w9 hw9
            obtain ⟨r1, r2, r3, r4, r5⟩ := rd w9 hw9
            go_simp
            try with_reducible rfl
          refine reads_step (v := ?vv8) (by rfl) (fun _ => trivial) ?hh8 ?rr8
          case hh8 =>
            intro w9 hw9
            obtain ⟨r1, r2, r3, r4, r5⟩ := rd w9 hw9
            go_simp
            try with_reducible rfl
          refine reads_step (v := ?vv9) (by rfl) (fun _ => trivial) ?hh9 ?rr9
          case hh9 =>
            intro w9 hw9
            obtain ⟨r1, r2, r3, r4, r5⟩ := rd w9 hw9
            go_simp
            try with_reducible rfl
          refine reads_step (v := ?vv10) (by rfl) (fun _ => trivial) ?hh10 ?rr10
          case hh10 =>
            intro w9 hw9
            obtain ⟨r1, r2, r3, r4, r5⟩ := rd w9 hw9
            go_simp
            try with_reducible rfl
          refine reads_step (v := ?vv11) (by rfl) (fun _ => trivial) ?hh11 ?rr11
          case hh11 =>
            intro w9 hw9
            obtain ⟨r1, r2, r3, r4, r5⟩ := rd w9 hw9
            go_simp
            try with_reducible rfl
          refine reads_step (v := ?vv12) (by rfl) (fun _ => trivial) ?hh12 ?rr12
          case hh12 =>
            intro w9 hw9
            obtain ⟨r1, r2, r3, r4, r5⟩ := rd w9 hw9
            go_simp
            try with_reducible rfl
          refine reads_step (v := ?vv13) (by rfl) (fun _ => trivial) ?hh13 ?rr13
          case hh13 =>
            intro w9 hw9
            obtain ⟨r1, r2, r3, r4, r5⟩ := rd w9 hw9
            go_simp
            try with_reducible rfl
          refine reads_step (v := ?vv14) (by rfl) (fun _ => trivial) ?hh14 ?rr14
          case hh14 =>
            intro w9 hw9
            obtain ⟨r1, r2, r3, r4, r5⟩ := rd w9 hw9
            go_simp
            try with_reducible rfl
          clear rd
          subst hW4 hW5
          refine reads_nil (tail_step (c' := 1) rfl (by rfl) (fun K' hK' => ?_))
          go_simp
          refine hK' _ _ (fun _ => .inr rfl) (tail_step (c' := 0) rfl (by rfl) (fun K2 hK2 => ?_))
          go_simp
          exact hK2 _ _ (fun h => absurd rfl h) (tail_nil rfl ⟨rfl, rfl⟩)
        rintro a w9 ⟨rfl, hw9⟩
        rw [hw9]
        clear hw9 w9
        have hD5 : DpI w l.length (.slice (some ⟨lb, lo, none⟩) l.length lc) W1.heap.size (W1.heap.size + 1 + 1) ds o W5 := by rw [← hW5]; exact hDx.drew.alloc _
        have hX5 : HasC W5 w'.heap.size #[.int .i64 (op : Nat), .int .i64 arg] 88 := by rw [← hW5]; exact HasC.alloc (W := W3.drew) hX _
        have hA5 : HasC W5 (w'.heap.size + 1) #[.int .i64 (oi - pz + qz)] 3 := by
          have := HasC.new W3.drew #[.int .i64 (oi - pz + qz)] 3
          rw [hW5] at this
          rwa [show W3.drew.heap.size = w'.heap.size + 1 from hs3] at this
        have m0 : W5.cell? ⟨0, op, none⟩ = some (.int .i64 pz) := (World.cell?_of_block (hD5.be.block _ hg0)).trans g0
        have hs5 : W5.heap.size = w'.heap.size + 1 + 1 := by rw [← hW5]; simp; exact hs3
        clear rd hW4 hW5 hs3 hDx hX k0 k1 hgs3
        obtain ⟨af, haf⟩ : ∃ af, oi - pz + qz = af := ⟨_, rfl⟩
        rw [haf] at hA5 hstep ⊢
        have haf0 : 0 ≤ af + 2 := by omega
        have hafb : af ≤ 18 := by omega
        have ca5 := hD5.r.cell i (iV_get (by rw [hok'.len]; omega))
        rw [hoi] at ca5
        have rd6 : ∀ w9, w9 = W5.drew → w9.cell? ⟨W1.heap.size + 1, 0, none⟩ = some (.slice (some ⟨W1.heap.size, 0, none⟩) (l.length + 1) (l.length + 1)) ∧ w9.cell? ⟨W1.heap.size, i, none⟩ = some (.int .i64 oi) ∧ w9.cell? ⟨w'.heap.size, 0, none⟩ = some (.int .i64 (op : Nat)) ∧ w9.cell? ⟨0, op, none⟩ = some (.int .i64 pz) ∧ w9.cell? ⟨w'.heap.size + 1, 0, none⟩ = some (.int .i64 af) := by
          rintro w9 rfl
          exact ⟨hD5.b5.cell 0 rfl, ca5, hX5.cell 0 rfl, m0, hA5.cell 0 rfl⟩
        have hD6 := hD5.drew
        have hA6 : HasC W5.drew _ _ _ := hA5
        have hX6 : HasC W5.drew _ _ _ := hX5
        have c2 := hD5.c2.cell 0 rfl
        have z2 := hD5.c2.frozen 0
        have c3 := hD5.c3.cell 0 rfl
        have z3 := hD5.c3.frozen 0
        have hs6 : W5.drew.heap.size = w'.heap.size + 1 + 1 := hs5
        gi_wp2_with fail
        by_cases e1 : oi < pz
        · rw [if_pos (.inl e1)] at hstep
          refine wpIn_mono (Q := OnlyN fun a wz => a = { tmps := #[.slice (some ⟨lb, lo, none⟩) l.length lc, .pointer (some ⟨w.heap.size, 0, none⟩), .pointer (some ⟨w.heap.size + 1, 0, none⟩), .pointer (some ⟨w.heap.size + 1 + 1, 0, none⟩), .int .i64 0, .pointer (some ⟨W1.heap.size + 1, 0, none⟩), u6, .int .i64 (i : Nat), (.pointer (some ⟨w'.heap.size, 0, none⟩)), .pointer (some ⟨(w'.heap.size + 1), 0, none⟩), v10, .slice (some ⟨lb, lo, none⟩) l.length lc, .int .i64 0, .int .i64 0, .bool false, undef, .slice (some ⟨lb, lo, none⟩) l.length lc, .int .i64 (l.length : Nat), .int .i64 ((l.length : Nat) + 1), .slice (some ⟨W1.heap.size, 0, none⟩) (l.length + 1) (l.length + 1), .slice (some ⟨W1.heap.size, 0, none⟩) (l.length + 1) (l.length + 1), .int .i64 ((l.length : Nat) + 1), .int .i64 ((l.length + 1 : Nat) : Int), .bool false, u24, u25, u26, u27, u28, .slice (some ⟨W1.heap.size, 0, none⟩) (l.length + 1) (l.length + 1), .pointer (some ⟨W1.heap.size, 0, none⟩), .slice (some ⟨lb, lo, none⟩) l.length lc, .int .i64 (l.length : Nat), .int .i64 (i : Nat), .bool true, .int .i64 (i : Nat), .pointer (some ⟨lb, lo + i * 2, none⟩), .agg #[.int .i64 (op : Nat), .int .i64 arg], .slice (some ⟨W1.heap.size, 0, none⟩) (l.length + 1) (l.length + 1), .int .i64 (i : Nat), .pointer (some ⟨W1.heap.size, i, none⟩), .int .i64 oi, .bool false, .slice (some ⟨W1.heap.size, 0, none⟩) (l.length + 1) (l.length + 1), .int .i64 (i : Nat), .pointer (some ⟨W1.heap.size, i, none⟩), .int .i64 oi, .pointer (some ⟨w'.heap.size, 0, none⟩), .int .i64 (op : Nat), .pointer (some ⟨0, op, none⟩), .int .i64 pz, .int .i64 (oi - pz), .pointer (some ⟨w'.heap.size, 0, none⟩), .int .i64 (op : Nat), .pointer (some ⟨1, op, none⟩), .int .i64 qz, .int .i64 af, .slice (some ⟨W1.heap.size, 0, none⟩) (l.length + 1) (l.length + 1), .int .i64 (i : Nat), .pointer (some ⟨W1.heap.size, i, none⟩), .int .i64 oi, .pointer (some ⟨w'.heap.size, 0, none⟩), .int .i64 (op : Nat), .pointer (some ⟨0, op, none⟩), .int .i64 pz, .bool true, .bool true, undef, undef, .bool true, v70, v71, v72, v73, v74, v75, v76, v77, v78, v79, v80, v81, v82, v83, v84, v85, v86, v87, v88, v89, v90, v91, v92, v93, v94, v95, v96, v97, undef, undef, undef, undef, undef, undef], defers := ds.map mark } ∧ wz = W5.drew) ?_ (only_mono ?_)
          · refine wpIn_region_reads 13 13 (fun w9 => w9 = W5.drew) rfl (by kernel_rfl) (by kernel_rfl) (fun _ _ _ _ h => h) ?_
            simp only [List.take_succ_cons, List.take_zero]
            refine reads_step (v := ?vv15) (by rfl) (fun _ => trivial) ?hh15 ?rr15
            case hh15 =>
              intro w9 hw9
              obtain ⟨r1, r2, r3, r4, r5⟩ := rd6 w9 hw9
              go_simp
              try with_reducible rfl
            refine reads_step (v := ?vv16) (by rfl) (fun _ => trivial) ?hh16 ?rr16
            case hh16 =>
              intro w9 hw9
              obtain ⟨r1, r2, r3, r4, r5⟩ := rd6 w9 hw9
              go_simp
              try with_reducible rfl
            refine reads_step (v := ?vv17) (by rfl) (fun _ => trivial) ?hh17 ?rr17
            case hh17 =>
              intro w9 hw9
              obtain ⟨r1, r2, r3, r4, r5⟩ := rd6 w9 hw9
              go_simp
              try with_reducible rfl
            refine reads_step (v := ?vv18) (by rfl) (fun _ => trivial) ?hh18 ?rr18
            case hh18 =>
              intro w9 hw9
              obtain ⟨r1, r2, r3, r4, r5⟩ := rd6 w9 hw9
              go_simp
              try with_reducible rfl
            refine reads_step (v := ?vv19) (by rfl) (fun _ => trivial) ?hh19 ?rr19
            case hh19 =>
              intro w9 hw9
              obtain ⟨r1, r2, r3, r4, r5⟩ := rd6 w9 hw9
              go_simp
              try with_reducible rfl
            refine reads_step (v := ?vv20) (by rfl) (fun _ => trivial) ?hh20 ?rr20
            case hh20 =>
              intro w9 hw9
              obtain ⟨r1, r2, r3, r4, r5⟩ := rd6 w9 hw9
              go_simp
              try with_reducible rfl
            refine reads_step (v := ?vv21) (by rfl) (fun _ => trivial) ?hh21 ?rr21
            case hh21 =>
              intro w9 hw9
              obtain ⟨r1, r2, r3, r4, r5⟩ := rd6 w9 hw9
              go_simp
              try with_reducible rfl
            refine reads_step (v := ?vv22) (by rfl) (fun _ => trivial) ?hh22 ?rr22
            case hh22 =>
              intro w9 hw9
              obtain ⟨r1, r2, r3, r4, r5⟩ := rd6 w9 hw9
              go_simp
              try with_reducible rfl
            refine reads_step (v := ?vv23) (by rfl) (fun _ => trivial) ?hh23 ?rr23
            case hh23 =>
              intro w9 hw9
              obtain ⟨r1, r2, r3, r4, r5⟩ := rd6 w9 hw9
              go_simp
              try with_reducible rfl
            refine reads_step (v := ?vv24) (by rfl) (fun _ => trivial) ?hh24 ?rr24
            case hh24 =>
              intro w9 hw9
              obtain ⟨r1, r2, r3, r4, r5⟩ := rd6 w9 hw9
              go_simp
              try with_reducible rfl
            refine reads_skip (by go_simp) (fun _ => trivial) ?_
            refine reads_skip (by go_simp) (fun _ => trivial) ?_
            refine reads_step (v := ?vv25) (by rfl) (fun _ => trivial) ?hh25 ?rr25
            case hh25 =>
              intro w9 hw9
              obtain ⟨r1, r2, r3, r4, r5⟩ := rd6 w9 hw9
              go_simp
              try with_reducible rfl
            refine reads_nil (tail_nil rfl (And.intro ?_ rfl))
            go_simp
          rintro a w9 ⟨rfl, rfl⟩
          clear rd6
          gi_wp2_with fail
          exact dep_end (l := l) (z := 13) (ds := ds) (B := W1.heap.size + 1 + 1) rfl rfl ((hD6.c2.set 0 _).other (by omega) _ _) ((hD6.c3.other (B' := w.heap.size + 1) (by omega) 0 _).set' 0 (.int .i64 13) rfl) ((hD6.m.set hD6.c2 _ _).set (hD6.c3.other (by omega) _ _) _ _) (by omega) ((hD6.be.setCell (p := ⟨_, _, none⟩) (by simp) _).setCell (p := ⟨_, _, none⟩) (by simp; omega) _) (by unfold depE; rw [if_pos hc, depS_none hstep (by omega)]; try rfl)
        have hge1 : ¬ (oi < pz) := e1
        have hpo : pz ≤ oi := by omega
        by_cases e2 : 16 < af
        · rw [if_pos (.inr e2)] at hstep
          refine wpIn_mono (Q := OnlyN fun a wz => a = { tmps := #[.slice (some ⟨lb, lo, none⟩) l.length lc, .pointer (some ⟨w.heap.size, 0, none⟩), .pointer (some ⟨w.heap.size + 1, 0, none⟩), .pointer (some ⟨w.heap.size + 1 + 1, 0, none⟩), .int .i64 0, .pointer (some ⟨W1.heap.size + 1, 0, none⟩), u6, .int .i64 (i : Nat), (.pointer (some ⟨w'.heap.size, 0, none⟩)), .pointer (some ⟨(w'.heap.size + 1), 0, none⟩), v10, .slice (some ⟨lb, lo, none⟩) l.length lc, .int .i64 0, .int .i64 0, .bool false, undef, .slice (some ⟨lb, lo, none⟩) l.length lc, .int .i64 (l.length : Nat), .int .i64 ((l.length : Nat) + 1), .slice (some ⟨W1.heap.size, 0, none⟩) (l.length + 1) (l.length + 1), .slice (some ⟨W1.heap.size, 0, none⟩) (l.length + 1) (l.length + 1), .int .i64 ((l.length : Nat) + 1), .int .i64 ((l.length + 1 : Nat) : Int), .bool false, u24, u25, u26, u27, u28, .slice (some ⟨W1.heap.size, 0, none⟩) (l.length + 1) (l.length + 1), .pointer (some ⟨W1.heap.size, 0, none⟩), .slice (some ⟨lb, lo, none⟩) l.length lc, .int .i64 (l.length : Nat), .int .i64 (i : Nat), .bool true, .int .i64 (i : Nat), .pointer (some ⟨lb, lo + i * 2, none⟩), .agg #[.int .i64 (op : Nat), .int .i64 arg], .slice (some ⟨W1.heap.size, 0, none⟩) (l.length + 1) (l.length + 1), .int .i64 (i : Nat), .pointer (some ⟨W1.heap.size, i, none⟩), .int .i64 oi, .bool false, .slice (some ⟨W1.heap.size, 0, none⟩) (l.length + 1) (l.length + 1), .int .i64 (i : Nat), .pointer (some ⟨W1.heap.size, i, none⟩), .int .i64 oi, .pointer (some ⟨w'.heap.size, 0, none⟩), .int .i64 (op : Nat), .pointer (some ⟨0, op, none⟩), .int .i64 pz, .int .i64 (oi - pz), .pointer (some ⟨w'.heap.size, 0, none⟩), .int .i64 (op : Nat), .pointer (some ⟨1, op, none⟩), .int .i64 qz, .int .i64 af, .slice (some ⟨W1.heap.size, 0, none⟩) (l.length + 1) (l.length + 1), .int .i64 (i : Nat), .pointer (some ⟨W1.heap.size, i, none⟩), .int .i64 oi, .pointer (some ⟨w'.heap.size, 0, none⟩), .int .i64 (op : Nat), .pointer (some ⟨0, op, none⟩), .int .i64 pz, .bool false, .bool false, .int .i64 af, .bool true, .bool true, v70, v71, v72, v73, v74, v75, v76, v77, v78, v79, v80, v81, v82, v83, v84, v85, v86, v87, v88, v89, v90, v91, v92, v93, v94, v95, v96, v97, undef, undef, undef, undef, undef, undef], defers := ds.map mark } ∧ wz = W5.drew) ?_ (only_mono ?_)
          · refine wpIn_region_reads 13 13 (fun w9 => w9 = W5.drew) rfl (by kernel_rfl) (by kernel_rfl) (fun _ _ _ _ h => h) ?_
            simp only [List.take_succ_cons, List.take_zero]
            refine reads_step (v := ?vv26) (by rfl) (fun _ => trivial) ?hh26 ?rr26
            case hh26 =>
              intro w9 hw9
              obtain ⟨r1, r2, r3, r4, r5⟩ := rd6 w9 hw9
              go_simp
              try with_reducible rfl
            refine reads_step (v := ?vv27) (by rfl) (fun _ => trivial) ?hh27 ?rr27
            case hh27 =>
              intro w9 hw9
              obtain ⟨r1, r2, r3, r4, r5⟩ := rd6 w9 hw9
              go_simp
              try with_reducible rfl
            refine reads_step (v := ?vv28) (by rfl) (fun _ => trivial) ?hh28 ?rr28
            case hh28 =>
              intro w9 hw9
              obtain ⟨r1, r2, r3, r4, r5⟩ := rd6 w9 hw9
              go_simp
              try with_reducible rfl
            refine reads_step (v := ?vv29) (by rfl) (fun _ => trivial) ?hh29 ?rr29
            case hh29 =>
              intro w9 hw9
              obtain ⟨r1, r2, r3, r4, r5⟩ := rd6 w9 hw9
              go_simp
              try with_reducible rfl
            refine reads_step (v := ?vv30) (by rfl) (fun _ => trivial) ?hh30 ?rr30
            case hh30 =>
              intro w9 hw9
              obtain ⟨r1, r2, r3, r4, r5⟩ := rd6 w9 hw9
              go_simp
              try with_reducible rfl
            refine reads_step (v := ?vv31) (by rfl) (fun _ => trivial) ?hh31 ?rr31
            case hh31 =>
              intro w9 hw9
              obtain ⟨r1, r2, r3, r4, r5⟩ := rd6 w9 hw9
              go_simp
              try with_reducible rfl
            refine reads_step (v := ?vv32) (by rfl) (fun _ => trivial) ?hh32 ?rr32
            case hh32 =>
              intro w9 hw9
              obtain ⟨r1, r2, r3, r4, r5⟩ := rd6 w9 hw9
              go_simp
              try with_reducible rfl
            refine reads_step (v := ?vv33) (by rfl) (fun _ => trivial) ?hh33 ?rr33
            case hh33 =>
              intro w9 hw9
              obtain ⟨r1, r2, r3, r4, r5⟩ := rd6 w9 hw9
              go_simp
              try with_reducible rfl
            refine reads_step (v := ?vv34) (by rfl) (fun _ => trivial) ?hh34 ?rr34
            case hh34 =>
              intro w9 hw9
              obtain ⟨r1, r2, r3, r4, r5⟩ := rd6 w9 hw9
              go_simp
              try with_reducible rfl
            refine reads_step (v := ?vv35) (by rfl) (fun _ => trivial) ?hh35 ?rr35
            case hh35 =>
              intro w9 hw9
              obtain ⟨r1, r2, r3, r4, r5⟩ := rd6 w9 hw9
              go_simp
              try with_reducible rfl
            refine reads_step (v := ?vv36) (by go_simp) (fun _ => trivial) ?hh36 ?rr36
            case hh36 =>
              intro w9 hw9
              obtain ⟨r1, r2, r3, r4, r5⟩ := rd6 w9 hw9
              go_simp
              try with_reducible rfl
            refine reads_step (v := ?vv37) (by go_simp) (fun _ => trivial) ?hh37 ?rr37
            case hh37 =>
              intro w9 hw9
              obtain ⟨r1, r2, r3, r4, r5⟩ := rd6 w9 hw9
              go_simp
              try with_reducible rfl
            refine reads_step (v := ?vv38) (by rfl) (fun _ => trivial) ?hh38 ?rr38
            case hh38 =>
              intro w9 hw9
              obtain ⟨r1, r2, r3, r4, r5⟩ := rd6 w9 hw9
              go_simp
              try with_reducible rfl
            refine reads_nil (tail_nil rfl (And.intro ?_ rfl))
            go_simp
          rintro a w9 ⟨rfl, rfl⟩
          clear rd6
          gi_wp2_with fail
          exact dep_end (l := l) (z := 13) (ds := ds) (B := W1.heap.size + 1 + 1) rfl rfl ((hD6.c2.set 0 _).other (by omega) _ _) ((hD6.c3.other (B' := w.heap.size + 1) (by omega) 0 _).set' 0 (.int .i64 13) rfl) ((hD6.m.set hD6.c2 _ _).set (hD6.c3.other (by omega) _ _) _ _) (by omega) ((hD6.be.setCell (p := ⟨_, _, none⟩) (by simp) _).setCell (p := ⟨_, _, none⟩) (by simp; omega) _) (by unfold depE; rw [if_pos hc, depS_none hstep (by omega)]; try rfl)
        rw [if_neg (by omega)] at hstep
        have hle2 : af ≤ 16 := by omega
        refine wpIn_mono (Q := OnlyN fun a wz => a = { tmps := #[.slice (some ⟨lb, lo, none⟩) l.length lc, .pointer (some ⟨w.heap.size, 0, none⟩), .pointer (some ⟨w.heap.size + 1, 0, none⟩), .pointer (some ⟨w.heap.size + 1 + 1, 0, none⟩), .int .i64 0, .pointer (some ⟨W1.heap.size + 1, 0, none⟩), u6, .int .i64 (i : Nat), (.pointer (some ⟨w'.heap.size, 0, none⟩)), .pointer (some ⟨(w'.heap.size + 1), 0, none⟩), v10, .slice (some ⟨lb, lo, none⟩) l.length lc, .int .i64 0, .int .i64 0, .bool false, undef, .slice (some ⟨lb, lo, none⟩) l.length lc, .int .i64 (l.length : Nat), .int .i64 ((l.length : Nat) + 1), .slice (some ⟨W1.heap.size, 0, none⟩) (l.length + 1) (l.length + 1), .slice (some ⟨W1.heap.size, 0, none⟩) (l.length + 1) (l.length + 1), .int .i64 ((l.length : Nat) + 1), .int .i64 ((l.length + 1 : Nat) : Int), .bool false, u24, u25, u26, u27, u28, .slice (some ⟨W1.heap.size, 0, none⟩) (l.length + 1) (l.length + 1), .pointer (some ⟨W1.heap.size, 0, none⟩), .slice (some ⟨lb, lo, none⟩) l.length lc, .int .i64 (l.length : Nat), .int .i64 (i : Nat), .bool true, .int .i64 (i : Nat), .pointer (some ⟨lb, lo + i * 2, none⟩), .agg #[.int .i64 (op : Nat), .int .i64 arg], .slice (some ⟨W1.heap.size, 0, none⟩) (l.length + 1) (l.length + 1), .int .i64 (i : Nat), .pointer (some ⟨W1.heap.size, i, none⟩), .int .i64 oi, .bool false, .slice (some ⟨W1.heap.size, 0, none⟩) (l.length + 1) (l.length + 1), .int .i64 (i : Nat), .pointer (some ⟨W1.heap.size, i, none⟩), .int .i64 oi, .pointer (some ⟨w'.heap.size, 0, none⟩), .int .i64 (op : Nat), .pointer (some ⟨0, op, none⟩), .int .i64 pz, .int .i64 (oi - pz), .pointer (some ⟨w'.heap.size, 0, none⟩), .int .i64 (op : Nat), .pointer (some ⟨1, op, none⟩), .int .i64 qz, .int .i64 af, .slice (some ⟨W1.heap.size, 0, none⟩) (l.length + 1) (l.length + 1), .int .i64 (i : Nat), .pointer (some ⟨W1.heap.size, i, none⟩), .int .i64 oi, .pointer (some ⟨w'.heap.size, 0, none⟩), .int .i64 (op : Nat), .pointer (some ⟨0, op, none⟩), .int .i64 pz, .bool false, .bool false, .int .i64 af, .bool false, .bool false, v70, v71, v72, v73, v74, v75, v76, v77, v78, v79, v80, v81, v82, v83, v84, v85, v86, v87, v88, v89, v90, v91, v92, v93, v94, v95, v96, v97, undef, undef, undef, undef, undef, undef], defers := ds.map mark } ∧ wz = W5.drew) ?_ (only_mono ?_)
        · refine wpIn_region_reads 13 13 (fun w9 => w9 = W5.drew) rfl (by kernel_rfl) (by kernel_rfl) (fun _ _ _ _ h => h) ?_
          simp only [List.take_succ_cons, List.take_zero]
          refine reads_step (v := ?vv39) (by rfl) (fun _ => trivial) ?hh39 ?rr39
          case hh39 =>
            intro w9 hw9
            obtain ⟨r1, r2, r3, r4, r5⟩ := rd6 w9 hw9
            go_simp
            try with_reducible rfl
          refine reads_step (v := ?vv40) (by rfl) (fun _ => trivial) ?hh40 ?rr40
          case hh40 =>
            intro w9 hw9
            obtain ⟨r1, r2, r3, r4, r5⟩ := rd6 w9 hw9
            go_simp
            try with_reducible rfl
          refine reads_step (v := ?vv41) (by rfl) (fun _ => trivial) ?hh41 ?rr41
          case hh41 =>
            intro w9 hw9
            obtain ⟨r1, r2, r3, r4, r5⟩ := rd6 w9 hw9
            go_simp
            try with_reducible rfl
          refine reads_step (v := ?vv42) (by rfl) (fun _ => trivial) ?hh42 ?rr42
          case hh42 =>
            intro w9 hw9
            obtain ⟨r1, r2, r3, r4, r5⟩ := rd6 w9 hw9
            go_simp
            try with_reducible rfl
          refine reads_step (v := ?vv43) (by rfl) (fun _ => trivial) ?hh43 ?rr43
          case hh43 =>
            intro w9 hw9
            obtain ⟨r1, r2, r3, r4, r5⟩ := rd6 w9 hw9
            go_simp
            try with_reducible rfl
          refine reads_step (v := ?vv44) (by rfl) (fun _ => trivial) ?hh44 ?rr44
          case hh44 =>
            intro w9 hw9
            obtain ⟨r1, r2, r3, r4, r5⟩ := rd6 w9 hw9
            go_simp
            try with_reducible rfl
          refine reads_step (v := ?vv45) (by rfl) (fun _ => trivial) ?hh45 ?rr45
          case hh45 =>
            intro w9 hw9
            obtain ⟨r1, r2, r3, r4, r5⟩ := rd6 w9 hw9
            go_simp
            try with_reducible rfl
          refine reads_step (v := ?vv46) (by rfl) (fun _ => trivial) ?hh46 ?rr46
          case hh46 =>
            intro w9 hw9
            obtain ⟨r1, r2, r3, r4, r5⟩ := rd6 w9 hw9
            go_simp
            try with_reducible rfl
          refine reads_step (v := ?vv47) (by rfl) (fun _ => trivial) ?hh47 ?rr47
          case hh47 =>
            intro w9 hw9
            obtain ⟨r1, r2, r3, r4, r5⟩ := rd6 w9 hw9
            go_simp
            try with_reducible rfl
          refine reads_step (v := ?vv48) (by rfl) (fun _ => trivial) ?hh48 ?rr48
          case hh48 =>
            intro w9 hw9
            obtain ⟨r1, r2, r3, r4, r5⟩ := rd6 w9 hw9
            go_simp
            try with_reducible rfl
          refine reads_step (v := ?vv49) (by go_simp) (fun _ => trivial) ?hh49 ?rr49
          case hh49 =>
            intro w9 hw9
            obtain ⟨r1, r2, r3, r4, r5⟩ := rd6 w9 hw9
            go_simp
            try with_reducible rfl
          refine reads_step (v := ?vv50) (by go_simp) (fun _ => trivial) ?hh50 ?rr50
          case hh50 =>
            intro w9 hw9
            obtain ⟨r1, r2, r3, r4, r5⟩ := rd6 w9 hw9
            go_simp
            try with_reducible rfl
          refine reads_step (v := ?vv51) (by rfl) (fun _ => trivial) ?hh51 ?rr51
          case hh51 =>
            intro w9 hw9
            obtain ⟨r1, r2, r3, r4, r5⟩ := rd6 w9 hw9
            go_simp
            try with_reducible rfl
          refine reads_nil (tail_nil rfl (And.intro ?_ rfl))
          go_simp
        rintro a w9 ⟨rfl, rfl⟩
        clear rd6
        have x5 := hX5.cell 0 rfl
        have x6 := hX5.cell 1 rfl
        have hX5' := hX5
        gi_wp2_with (refine ⟨trivial, ?_⟩; gi_at_call 28; refine (callsIn_wide.2 (succ_fn _ _ _ _)).mono ?_; rintro e W6 ⟨rfl, rfl⟩)
        obtain ⟨W7, hW7⟩ : ∃ W7, ((W5.alloc (.cells #[.int .i64 (op : Nat), .int .i64 arg] 88)).alloc (.cells #[.int .i64 (i : Nat)] 3)).drew = W7 := ⟨_, rfl⟩
        have h70 : HasC W7 W5.heap.size #[.int .i64 (op : Nat), .int .i64 arg] 88 := by rw [← hW7]; exact (HasC.new W5 _ _).alloc _
        have h71 : HasC W7 (W5.heap.size + 1) #[.int .i64 (i : Nat)] 3 := by
          rw [← hW7]
          have := HasC.new (W5.alloc (.cells #[.int .i64 (op : Nat), .int .i64 arg] 88)) #[.int .i64 (i : Nat)] 3
          rwa [World.size_alloc] at this
        have hs7 : W7.heap.size = W5.heap.size + 1 + 1 := by rw [← hW7]; simp
        have hD7 : DpI w l.length (.slice (some ⟨lb, lo, none⟩) l.length lc) W1.heap.size (W1.heap.size + 1 + 1) ds o W7 := by rw [← hW7]; exact ((hD5.alloc _).alloc _).drew
        have hA7 : HasC W7 (w'.heap.size + 1) #[.int .i64 af] 3 := by rw [← hW7]; exact (hA5.alloc _).alloc _
        have hs5' := hD5.be.size
        rw [hs5] at h70 h71 hs7 hs5'
        have hds7 : ∀ D ∈ ds, D < W7.heap.size := hD7.m.lt
        rw [hW7]
        clear hW7 hD5 hD6 hX5 hX6 hA5 hA6 hX5' x5 x6 ca5 c2 z2 c3 z3 c1 c5 ca cxa c5a hD m0 g0 g1
        refine wpIn_rangeFunc_ownH rfl (by decide) (gf := 58) (lb := #[.pointer (some ⟨w'.heap.size + 1 + 1, 0, none⟩), .pointer (some ⟨w'.heap.size + 1 + 1 + 1, 0, none⟩)]) rfl trivial (enters_of Tryd.func58 (by kernel_rfl) rfl)
          (encs := fun x : Fin (l.length + 1) => #[.int .i64 (x.val : Nat)]) (Kp := Kp2 w.heap.size (w'.heap.size + 1 + 1)) (S := fun ys => ys.map (fun x : Fin (l.length + 1) => (x.val : Int)) = succL op arg i) (Sp := fun pre => ∃ rest, succL op arg i = pre.map (fun x : Fin (l.length + 1) => (x.val : Int)) ++ rest) (N := 2) (w0 := W7)
          (fun lp J Jx W hW hJ hJx hY h0 => succ1_in 7 (by decide) lp (w'.heap.size + 1 + 1) w.heap.size op arg i (by omega) (by omega) (fun x : Fin (l.length + 1) => (x.val : Int)) (fun _ _ => ⟨⟨i + 1, by omega⟩, by simp⟩) (fun h => ⟨⟨arg.toNat, by have := ok.j h; simp at this; omega⟩, by have := ok.j h; simp at this ⊢; omega⟩) J Jx W (by have := hW.size; omega) (by have := hW.size; omega) hY
            ((h70.below hW (by omega)).cell 0 rfl) ((h70.below hW (by omega)).cell 1 rfl) ((h71.below hW (by omega)).cell 0 rfl) h0)
          Kp2.trans (fun W lp o o' hlp h hc hw => Kp2.putObj (w := W7) (by omega) (by omega) W lp o o' hlp h hc hw) (Below.refl _ _) (fun _ => rfl)
          (fun pre W => DepI w W1 (w'.heap.size + 1 + 1) l.length lb lo lc (w'.heap.size + 1) ds af (dfold l.length af (pre.map (fun x : Fin (l.length + 1) => (x.val : Int))) (some o)) W)
          (fun c pre W => c = .ret ∧ dfold l.length af (pre.map (fun x : Fin (l.length + 1) => (x.val : Int))) (some o) = none ∧ DepX w W1 ds W)
          (DepI.own (by omega) hds7 (fun pre : List (Fin (l.length + 1)) => dfold l.length af (pre.map (fun x : Fin (l.length + 1) => (x.val : Int))) (some o)))
          (fun c s X Y row h hg hr => ⟨h.1, h.2.1, DepX.own (β := Unit) (by omega) hds7 () X Y row h.2.2 hg hr⟩) ⟨o, rfl, hok', hD7, hA7⟩
          (fun x a' W => a' = { tmps := #[.slice (some ⟨lb, lo, none⟩) l.length lc, .pointer (some ⟨w.heap.size, 0, none⟩), .pointer (some ⟨w.heap.size + 1, 0, none⟩), .pointer (some ⟨w.heap.size + 1 + 1, 0, none⟩), .int .i64 0, .pointer (some ⟨W1.heap.size + 1, 0, none⟩), u6, .int .i64 (i : Nat), (.pointer (some ⟨w'.heap.size, 0, none⟩)), .pointer (some ⟨(w'.heap.size + 1), 0, none⟩), .int .i64 (x.val : Nat), .slice (some ⟨lb, lo, none⟩) l.length lc, .int .i64 0, .int .i64 0, .bool false, undef, .slice (some ⟨lb, lo, none⟩) l.length lc, .int .i64 (l.length : Nat), .int .i64 ((l.length : Nat) + 1), .slice (some ⟨W1.heap.size, 0, none⟩) (l.length + 1) (l.length + 1), .slice (some ⟨W1.heap.size, 0, none⟩) (l.length + 1) (l.length + 1), .int .i64 ((l.length : Nat) + 1), .int .i64 ((l.length + 1 : Nat) : Int), .bool false, u24, u25, u26, u27, u28, .slice (some ⟨W1.heap.size, 0, none⟩) (l.length + 1) (l.length + 1), .pointer (some ⟨W1.heap.size, 0, none⟩), .slice (some ⟨lb, lo, none⟩) l.length lc, .int .i64 (l.length : Nat), .int .i64 (i : Nat), .bool true, .int .i64 (i : Nat), .pointer (some ⟨lb, lo + i * 2, none⟩), .agg #[.int .i64 (op : Nat), .int .i64 arg], .slice (some ⟨W1.heap.size, 0, none⟩) (l.length + 1) (l.length + 1), .int .i64 (i : Nat), .pointer (some ⟨W1.heap.size, i, none⟩), .int .i64 oi, .bool false, .slice (some ⟨W1.heap.size, 0, none⟩) (l.length + 1) (l.length + 1), .int .i64 (i : Nat), .pointer (some ⟨W1.heap.size, i, none⟩), .int .i64 oi, .pointer (some ⟨w'.heap.size, 0, none⟩), .int .i64 (op : Nat), .pointer (some ⟨0, op, none⟩), .int .i64 pz, .int .i64 (oi - pz), .pointer (some ⟨w'.heap.size, 0, none⟩), .int .i64 (op : Nat), .pointer (some ⟨1, op, none⟩), .int .i64 qz, .int .i64 af, .slice (some ⟨W1.heap.size, 0, none⟩) (l.length + 1) (l.length + 1), .int .i64 (i : Nat), .pointer (some ⟨W1.heap.size, i, none⟩), .int .i64 oi, .pointer (some ⟨w'.heap.size, 0, none⟩), .int .i64 (op : Nat), .pointer (some ⟨0, op, none⟩), .int .i64 pz, .bool false, .bool false, .int .i64 af, .bool false, .bool false, .agg #[.int .i64 (op : Nat), .int .i64 arg], .int .i64 (i : Nat), .func (.func 58) #[] #[.pointer (some ⟨w'.heap.size + 1 + 1, 0, none⟩), .pointer (some ⟨w'.heap.size + 1 + 1 + 1, 0, none⟩)], .int .i64 (x.val : Nat), v74, v75, v76, v77, v78, v79, v80, v81, v82, v83, v84, v85, v86, v87, v88, v89, v90, v91, v92, v93, v94, v95, v96, v97, undef, undef, undef, undef, undef, undef], defers := [] }) (fun x a' _ X Y rw' hs hg hr => hs) ?assign ?body ?done ?stop
        case assign =>
          rintro lp pre x W K hi hK
          gi_wp2
          exact hK _ _ ((KeepsOthers.refl W).from _) (Kp2.refl _ _ _) hi rfl
        case body =>
          rintro lp pre x a' W hlp ⟨r, hr⟩ hi' rfl hlt'
          obtain ⟨q, hq, hqo, hDq, hAq⟩ := hi'
          have hnx : dfold l.length af ((pre ++ [x]).map (fun x : Fin (l.length + 1) => (x.val : Int))) (some o) = dset l.length af q (x.val : Nat) := by rw [List.map_append, dfold_append, hq]; rfl
          obtain ⟨xv, hxv⟩ := x
          dsimp only at hnx ⊢
          have hxi : (xv : Int) < (l.length : Int) + 1 := by omega
          obtain ⟨qx, hqx⟩ : ∃ qx, q.getD xv 0 = qx := ⟨_, rfl⟩
          have hqb := hqo.get xv
          have cx := hDq.r.cell xv (iV_get (by rw [hqo.len]; omega))
          have fx := hDq.r.frozen xv
          have c1 := hDq.b1.cell 0 rfl
          have c5 := hDq.b5.cell 0 rfl
          have cA := hAq.cell 0 rfl
          have c2 := hDq.c2.cell 0 rfl
          have z2 := hDq.c2.frozen 0
          have c3 := hDq.c3.cell 0 rfl
          have z3 := hDq.c3.frozen 0
          have hDd := hDq.drew
          have hWs := hDq.be.size
          have hAd : HasC W.drew _ _ _ := hAq
          unfold dset at hnx
          rw [Int.toNat_natCast, hqx] at hnx
          rw [hqx] at hqb cx
          have rd7 : ∀ w9, w9 = W.drew → w9.cell? ⟨w.heap.size, 0, none⟩ = some (.slice (some ⟨lb, lo, none⟩) l.length lc) ∧ w9.cell? ⟨W1.heap.size + 1, 0, none⟩ = some (.slice (some ⟨W1.heap.size, 0, none⟩) (l.length + 1) (l.length + 1)) ∧ w9.cell? ⟨W1.heap.size, xv, none⟩ = some (.int .i64 qx) ∧ w9.cell? ⟨w'.heap.size + 1, 0, none⟩ = some (.int .i64 af) := by
            rintro w9 rfl
            exact ⟨c1, c5, cx, cA⟩
          gi_wp2_with fail
          by_cases hxn : (xv : Int) < (l.length : Int)
          case neg =>
            rw [if_neg (fun h => hxn h.1)] at hnx
            refine wpIn_mono (Q := OnlyN fun a wz => a = { tmps := #[.slice (some ⟨lb, lo, none⟩) l.length lc, .pointer (some ⟨w.heap.size, 0, none⟩), .pointer (some ⟨w.heap.size + 1, 0, none⟩), .pointer (some ⟨w.heap.size + 1 + 1, 0, none⟩), .int .i64 0, .pointer (some ⟨W1.heap.size + 1, 0, none⟩), u6, .int .i64 (i : Nat), (.pointer (some ⟨w'.heap.size, 0, none⟩)), .pointer (some ⟨(w'.heap.size + 1), 0, none⟩), .int .i64 (xv : Nat), .slice (some ⟨lb, lo, none⟩) l.length lc, .int .i64 0, .int .i64 0, .bool false, undef, .slice (some ⟨lb, lo, none⟩) l.length lc, .int .i64 (l.length : Nat), .int .i64 ((l.length : Nat) + 1), .slice (some ⟨W1.heap.size, 0, none⟩) (l.length + 1) (l.length + 1), .slice (some ⟨W1.heap.size, 0, none⟩) (l.length + 1) (l.length + 1), .int .i64 ((l.length : Nat) + 1), .int .i64 ((l.length + 1 : Nat) : Int), .bool false, u24, u25, u26, u27, u28, .slice (some ⟨W1.heap.size, 0, none⟩) (l.length + 1) (l.length + 1), .pointer (some ⟨W1.heap.size, 0, none⟩), .slice (some ⟨lb, lo, none⟩) l.length lc, .int .i64 (l.length : Nat), .int .i64 (i : Nat), .bool true, .int .i64 (i : Nat), .pointer (some ⟨lb, lo + i * 2, none⟩), .agg #[.int .i64 (op : Nat), .int .i64 arg], .slice (some ⟨W1.heap.size, 0, none⟩) (l.length + 1) (l.length + 1), .int .i64 (i : Nat), .pointer (some ⟨W1.heap.size, i, none⟩), .int .i64 oi, .bool false, .slice (some ⟨W1.heap.size, 0, none⟩) (l.length + 1) (l.length + 1), .int .i64 (i : Nat), .pointer (some ⟨W1.heap.size, i, none⟩), .int .i64 oi, .pointer (some ⟨w'.heap.size, 0, none⟩), .int .i64 (op : Nat), .pointer (some ⟨0, op, none⟩), .int .i64 pz, .int .i64 (oi - pz), .pointer (some ⟨w'.heap.size, 0, none⟩), .int .i64 (op : Nat), .pointer (some ⟨1, op, none⟩), .int .i64 qz, .int .i64 af, .slice (some ⟨W1.heap.size, 0, none⟩) (l.length + 1) (l.length + 1), .int .i64 (i : Nat), .pointer (some ⟨W1.heap.size, i, none⟩), .int .i64 oi, .pointer (some ⟨w'.heap.size, 0, none⟩), .int .i64 (op : Nat), .pointer (some ⟨0, op, none⟩), .int .i64 pz, .bool false, .bool false, .int .i64 af, .bool false, .bool false, .agg #[.int .i64 (op : Nat), .int .i64 arg], .int .i64 (i : Nat), .func (.func 58) #[] #[.pointer (some ⟨w'.heap.size + 1 + 1, 0, none⟩), .pointer (some ⟨w'.heap.size + 1 + 1 + 1, 0, none⟩)], .int .i64 (xv : Nat), .int .i64 (xv : Nat), .slice (some ⟨lb, lo, none⟩) l.length lc, .int .i64 (l.length : Nat), .bool false, .bool false, undef, undef, undef, undef, undef, .bool false, .bool false, undef, undef, undef, undef, undef, undef, .bool false, v93, v94, v95, v96, v97, undef, undef, undef, undef, undef, undef], defers := [] } ∧ wz = W.drew) ?_ (only_mono ?_)
            · refine wpIn_region_reads 19 19 (fun w9 => w9 = W.drew) rfl (by kernel_rfl) (by kernel_rfl) (fun _ _ _ _ h => h) ?_
              simp only [List.take_succ_cons, List.take_zero]
              refine reads_step (v := ?vv52) (by rfl) (fun _ => trivial) ?hh52 ?rr52
              case hh52 =>
                intro w9 hw9
                obtain ⟨r1, r2, r3, r4⟩ := rd7 w9 hw9
                go_simp
                try with_reducible rfl
              refine reads_step (v := ?vv53) (by rfl) (fun _ => trivial) ?hh53 ?rr53
              case hh53 =>
                intro w9 hw9
                obtain ⟨r1, r2, r3, r4⟩ := rd7 w9 hw9
                go_simp
                try with_reducible rfl
              refine reads_step (v := ?vv54) (by rfl) (fun _ => trivial) ?hh54 ?rr54
              case hh54 =>
                intro w9 hw9
                obtain ⟨r1, r2, r3, r4⟩ := rd7 w9 hw9
                go_simp
                try with_reducible rfl
              refine reads_step (v := ?vv55) (by rfl) (fun _ => trivial) ?hh55 ?rr55
              case hh55 =>
                intro w9 hw9
                obtain ⟨r1, r2, r3, r4⟩ := rd7 w9 hw9
                go_simp
                try with_reducible rfl
              refine reads_step (v := ?vv56) (by rfl) (fun _ => trivial) ?hh56 ?rr56
              case hh56 =>
                intro w9 hw9
                obtain ⟨r1, r2, r3, r4⟩ := rd7 w9 hw9
                go_simp
                try with_reducible rfl
              refine reads_skip (by go_simp) (fun _ => trivial) ?_
              refine reads_skip (by go_simp) (fun _ => trivial) ?_
              refine reads_skip (by go_simp) (fun _ => trivial) ?_
              refine reads_skip (by go_simp) (fun _ => trivial) ?_
              refine reads_skip (by go_simp) (fun _ => trivial) ?_
              refine reads_step (v := ?vv57) (by rfl) (fun _ => trivial) ?hh57 ?rr57
              case hh57 =>
                intro w9 hw9
                obtain ⟨r1, r2, r3, r4⟩ := rd7 w9 hw9
                go_simp
                try with_reducible rfl
              refine reads_step (v := ?vv58) (by rfl) (fun _ => trivial) ?hh58 ?rr58
              case hh58 =>
                intro w9 hw9
                obtain ⟨r1, r2, r3, r4⟩ := rd7 w9 hw9
                go_simp
                try with_reducible rfl
              refine reads_skip (by go_simp) (fun _ => trivial) ?_
              refine reads_skip (by go_simp) (fun _ => trivial) ?_
              refine reads_skip (by go_simp) (fun _ => trivial) ?_
              refine reads_skip (by go_simp) (fun _ => trivial) ?_
              refine reads_skip (by go_simp) (fun _ => trivial) ?_
              refine reads_skip (by go_simp) (fun _ => trivial) ?_
              refine reads_step (v := ?vv59) (by rfl) (fun _ => trivial) ?hh59 ?rr59
              case hh59 =>
                intro w9 hw9
                obtain ⟨r1, r2, r3, r4⟩ := rd7 w9 hw9
                go_simp
                try with_reducible rfl
              refine reads_nil (tail_nil rfl (And.intro ?_ rfl))
              go_simp
            rintro a w9 ⟨rfl, rfl⟩
            clear rd7
            gi_wp2_with fail
            have hs9 := hDd.set hR xv af
            exact ⟨((KeepsOthers.drew W).trans (KeepsOthers.setCell W.drew _ _)).from _, ⟨((Below.refl _ W).drew).setCell (p := ⟨_, _, none⟩) (by simp; omega) _, fun k h1 h2 => Below.heap_setCell W.drew ⟨W1.heap.size, xv, none⟩ _ k (by simp; omega)⟩, ⟨q.set xv af, hnx, hqo.set xv (by omega), hs9, hAd.other (by omega) _ _⟩⟩
          by_cases hq0 : qx < 0
          · rw [if_neg (fun h => by omega)] at hnx
            have hnq : ¬ (0 ≤ qx) := by omega
            refine wpIn_mono (Q := OnlyN fun a wz => a = { tmps := #[.slice (some ⟨lb, lo, none⟩) l.length lc, .pointer (some ⟨w.heap.size, 0, none⟩), .pointer (some ⟨w.heap.size + 1, 0, none⟩), .pointer (some ⟨w.heap.size + 1 + 1, 0, none⟩), .int .i64 0, .pointer (some ⟨W1.heap.size + 1, 0, none⟩), u6, .int .i64 (i : Nat), (.pointer (some ⟨w'.heap.size, 0, none⟩)), .pointer (some ⟨(w'.heap.size + 1), 0, none⟩), .int .i64 (xv : Nat), .slice (some ⟨lb, lo, none⟩) l.length lc, .int .i64 0, .int .i64 0, .bool false, undef, .slice (some ⟨lb, lo, none⟩) l.length lc, .int .i64 (l.length : Nat), .int .i64 ((l.length : Nat) + 1), .slice (some ⟨W1.heap.size, 0, none⟩) (l.length + 1) (l.length + 1), .slice (some ⟨W1.heap.size, 0, none⟩) (l.length + 1) (l.length + 1), .int .i64 ((l.length : Nat) + 1), .int .i64 ((l.length + 1 : Nat) : Int), .bool false, u24, u25, u26, u27, u28, .slice (some ⟨W1.heap.size, 0, none⟩) (l.length + 1) (l.length + 1), .pointer (some ⟨W1.heap.size, 0, none⟩), .slice (some ⟨lb, lo, none⟩) l.length lc, .int .i64 (l.length : Nat), .int .i64 (i : Nat), .bool true, .int .i64 (i : Nat), .pointer (some ⟨lb, lo + i * 2, none⟩), .agg #[.int .i64 (op : Nat), .int .i64 arg], .slice (some ⟨W1.heap.size, 0, none⟩) (l.length + 1) (l.length + 1), .int .i64 (i : Nat), .pointer (some ⟨W1.heap.size, i, none⟩), .int .i64 oi, .bool false, .slice (some ⟨W1.heap.size, 0, none⟩) (l.length + 1) (l.length + 1), .int .i64 (i : Nat), .pointer (some ⟨W1.heap.size, i, none⟩), .int .i64 oi, .pointer (some ⟨w'.heap.size, 0, none⟩), .int .i64 (op : Nat), .pointer (some ⟨0, op, none⟩), .int .i64 pz, .int .i64 (oi - pz), .pointer (some ⟨w'.heap.size, 0, none⟩), .int .i64 (op : Nat), .pointer (some ⟨1, op, none⟩), .int .i64 qz, .int .i64 af, .slice (some ⟨W1.heap.size, 0, none⟩) (l.length + 1) (l.length + 1), .int .i64 (i : Nat), .pointer (some ⟨W1.heap.size, i, none⟩), .int .i64 oi, .pointer (some ⟨w'.heap.size, 0, none⟩), .int .i64 (op : Nat), .pointer (some ⟨0, op, none⟩), .int .i64 pz, .bool false, .bool false, .int .i64 af, .bool false, .bool false, .agg #[.int .i64 (op : Nat), .int .i64 arg], .int .i64 (i : Nat), .func (.func 58) #[] #[.pointer (some ⟨w'.heap.size + 1 + 1, 0, none⟩), .pointer (some ⟨w'.heap.size + 1 + 1 + 1, 0, none⟩)], .int .i64 (xv : Nat), .int .i64 (xv : Nat), .slice (some ⟨lb, lo, none⟩) l.length lc, .int .i64 (l.length : Nat), .bool true, .bool true, .slice (some ⟨W1.heap.size, 0, none⟩) (l.length + 1) (l.length + 1), .int .i64 (xv : Nat), .pointer (some ⟨W1.heap.size, xv, none⟩), .int .i64 qx, .bool false, .bool false, .bool false, undef, undef, undef, undef, undef, undef, .bool false, v93, v94, v95, v96, v97, undef, undef, undef, undef, undef, undef], defers := [] } ∧ wz = W.drew) ?_ (only_mono ?_)
            · refine wpIn_region_reads 19 19 (fun w9 => w9 = W.drew) rfl (by kernel_rfl) (by kernel_rfl) (fun _ _ _ _ h => h) ?_
              simp only [List.take_succ_cons, List.take_zero]
              refine reads_step (v := ?vv60) (by rfl) (fun _ => trivial) ?hh60 ?rr60
              case hh60 =>
                intro w9 hw9
                obtain ⟨r1, r2, r3, r4⟩ := rd7 w9 hw9
                go_simp
                try with_reducible rfl
              refine reads_step (v := ?vv61) (by rfl) (fun _ => trivial) ?hh61 ?rr61
              case hh61 =>
                intro w9 hw9
                obtain ⟨r1, r2, r3, r4⟩ := rd7 w9 hw9
                go_simp
                try with_reducible rfl
              refine reads_step (v := ?vv62) (by rfl) (fun _ => trivial) ?hh62 ?rr62
              case hh62 =>
                intro w9 hw9
                obtain ⟨r1, r2, r3, r4⟩ := rd7 w9 hw9
                go_simp
                try with_reducible rfl
              refine reads_step (v := ?vv63) (by rfl) (fun _ => trivial) ?hh63 ?rr63
              case hh63 =>
                intro w9 hw9
                obtain ⟨r1, r2, r3, r4⟩ := rd7 w9 hw9
                go_simp
                try with_reducible rfl
              refine reads_step (v := ?vv64) (by rfl) (fun _ => trivial) ?hh64 ?rr64
              case hh64 =>
                intro w9 hw9
                obtain ⟨r1, r2, r3, r4⟩ := rd7 w9 hw9
                go_simp
                try with_reducible rfl
              refine reads_step (v := ?vv65) (by go_simp) (fun _ => trivial) ?hh65 ?rr65
              case hh65 =>
                intro w9 hw9
                obtain ⟨r1, r2, r3, r4⟩ := rd7 w9 hw9
                go_simp
                try with_reducible rfl
              refine reads_step (v := ?vv66) (by go_simp) (fun _ => trivial) ?hh66 ?rr66
              case hh66 =>
                intro w9 hw9
                obtain ⟨r1, r2, r3, r4⟩ := rd7 w9 hw9
                go_simp
                try with_reducible rfl
              refine reads_step (v := ?vv67) (by go_simp) (fun _ => trivial) ?hh67 ?rr67
              case hh67 =>
                intro w9 hw9
                obtain ⟨r1, r2, r3, r4⟩ := rd7 w9 hw9
                go_simp
                try with_reducible rfl
              refine reads_step (v := ?vv68) (by go_simp) (fun _ => trivial) ?hh68 ?rr68
              case hh68 =>
                intro w9 hw9
                obtain ⟨r1, r2, r3, r4⟩ := rd7 w9 hw9
                go_simp
                try with_reducible rfl
              refine reads_step (v := ?vv69) (by go_simp) (fun _ => trivial) ?hh69 ?rr69
              case hh69 =>
                intro w9 hw9
                obtain ⟨r1, r2, r3, r4⟩ := rd7 w9 hw9
                go_simp
                try with_reducible rfl
              refine reads_step (v := ?vv70) (by rfl) (fun _ => trivial) ?hh70 ?rr70
              case hh70 =>
                intro w9 hw9
                obtain ⟨r1, r2, r3, r4⟩ := rd7 w9 hw9
                go_simp
                try with_reducible rfl
              refine reads_step (v := ?vv71) (by rfl) (fun _ => trivial) ?hh71 ?rr71
              case hh71 =>
                intro w9 hw9
                obtain ⟨r1, r2, r3, r4⟩ := rd7 w9 hw9
                go_simp
                try with_reducible rfl
              refine reads_skip (by go_simp) (fun _ => trivial) ?_
              refine reads_skip (by go_simp) (fun _ => trivial) ?_
              refine reads_skip (by go_simp) (fun _ => trivial) ?_
              refine reads_skip (by go_simp) (fun _ => trivial) ?_
              refine reads_skip (by go_simp) (fun _ => trivial) ?_
              refine reads_skip (by go_simp) (fun _ => trivial) ?_
              refine reads_step (v := ?vv72) (by rfl) (fun _ => trivial) ?hh72 ?rr72
              case hh72 =>
                intro w9 hw9
                obtain ⟨r1, r2, r3, r4⟩ := rd7 w9 hw9
                go_simp
                try with_reducible rfl
              refine reads_nil (tail_nil rfl (And.intro ?_ rfl))
              go_simp
            rintro a w9 ⟨rfl, rfl⟩
            clear rd7
            gi_wp2_with fail
            have hs9 := hDd.set hR xv af
            exact ⟨((KeepsOthers.drew W).trans (KeepsOthers.setCell W.drew _ _)).from _, ⟨((Below.refl _ W).drew).setCell (p := ⟨_, _, none⟩) (by simp; omega) _, fun k h1 h2 => Below.heap_setCell W.drew ⟨W1.heap.size, xv, none⟩ _ k (by simp; omega)⟩, ⟨q.set xv af, hnx, hqo.set xv (by omega), hs9, hAd.other (by omega) _ _⟩⟩
          have hq1 : 0 ≤ qx := by omega
          by_cases hqa : qx = af
          · subst hqa
            rw [if_neg (fun h => h.2.2 rfl)] at hnx
            refine wpIn_mono (Q := OnlyN fun a wz => a = { tmps := #[.slice (some ⟨lb, lo, none⟩) l.length lc, .pointer (some ⟨w.heap.size, 0, none⟩), .pointer (some ⟨w.heap.size + 1, 0, none⟩), .pointer (some ⟨w.heap.size + 1 + 1, 0, none⟩), .int .i64 0, .pointer (some ⟨W1.heap.size + 1, 0, none⟩), u6, .int .i64 (i : Nat), (.pointer (some ⟨w'.heap.size, 0, none⟩)), .pointer (some ⟨(w'.heap.size + 1), 0, none⟩), .int .i64 (xv : Nat), .slice (some ⟨lb, lo, none⟩) l.length lc, .int .i64 0, .int .i64 0, .bool false, undef, .slice (some ⟨lb, lo, none⟩) l.length lc, .int .i64 (l.length : Nat), .int .i64 ((l.length : Nat) + 1), .slice (some ⟨W1.heap.size, 0, none⟩) (l.length + 1) (l.length + 1), .slice (some ⟨W1.heap.size, 0, none⟩) (l.length + 1) (l.length + 1), .int .i64 ((l.length : Nat) + 1), .int .i64 ((l.length + 1 : Nat) : Int), .bool false, u24, u25, u26, u27, u28, .slice (some ⟨W1.heap.size, 0, none⟩) (l.length + 1) (l.length + 1), .pointer (some ⟨W1.heap.size, 0, none⟩), .slice (some ⟨lb, lo, none⟩) l.length lc, .int .i64 (l.length : Nat), .int .i64 (i : Nat), .bool true, .int .i64 (i : Nat), .pointer (some ⟨lb, lo + i * 2, none⟩), .agg #[.int .i64 (op : Nat), .int .i64 arg], .slice (some ⟨W1.heap.size, 0, none⟩) (l.length + 1) (l.length + 1), .int .i64 (i : Nat), .pointer (some ⟨W1.heap.size, i, none⟩), .int .i64 oi, .bool false, .slice (some ⟨W1.heap.size, 0, none⟩) (l.length + 1) (l.length + 1), .int .i64 (i : Nat), .pointer (some ⟨W1.heap.size, i, none⟩), .int .i64 oi, .pointer (some ⟨w'.heap.size, 0, none⟩), .int .i64 (op : Nat), .pointer (some ⟨0, op, none⟩), .int .i64 pz, .int .i64 (oi - pz), .pointer (some ⟨w'.heap.size, 0, none⟩), .int .i64 (op : Nat), .pointer (some ⟨1, op, none⟩), .int .i64 qz, .int .i64 qx, .slice (some ⟨W1.heap.size, 0, none⟩) (l.length + 1) (l.length + 1), .int .i64 (i : Nat), .pointer (some ⟨W1.heap.size, i, none⟩), .int .i64 oi, .pointer (some ⟨w'.heap.size, 0, none⟩), .int .i64 (op : Nat), .pointer (some ⟨0, op, none⟩), .int .i64 pz, .bool false, .bool false, .int .i64 qx, .bool false, .bool false, .agg #[.int .i64 (op : Nat), .int .i64 arg], .int .i64 (i : Nat), .func (.func 58) #[] #[.pointer (some ⟨w'.heap.size + 1 + 1, 0, none⟩), .pointer (some ⟨w'.heap.size + 1 + 1 + 1, 0, none⟩)], .int .i64 (xv : Nat), .int .i64 (xv : Nat), .slice (some ⟨lb, lo, none⟩) l.length lc, .int .i64 (l.length : Nat), .bool true, .bool true, .slice (some ⟨W1.heap.size, 0, none⟩) (l.length + 1) (l.length + 1), .int .i64 (xv : Nat), .pointer (some ⟨W1.heap.size, xv, none⟩), .int .i64 qx, .bool true, .bool true, .bool true, .slice (some ⟨W1.heap.size, 0, none⟩) (l.length + 1) (l.length + 1), .int .i64 (xv : Nat), .pointer (some ⟨W1.heap.size, xv, none⟩), .int .i64 qx, .int .i64 qx, .bool false, .bool false, v93, v94, v95, v96, v97, undef, undef, undef, undef, undef, undef], defers := [] } ∧ wz = W.drew) ?_ (only_mono ?_)
            · refine wpIn_region_reads 19 19 (fun w9 => w9 = W.drew) rfl (by kernel_rfl) (by kernel_rfl) (fun _ _ _ _ h => h) ?_
              simp only [List.take_succ_cons, List.take_zero]
              refine reads_step (v := ?vv73) (by rfl) (fun _ => trivial) ?hh73 ?rr73
              case hh73 =>
                intro w9 hw9
                obtain ⟨r1, r2, r3, r4⟩ := rd7 w9 hw9
                go_simp
                try with_reducible rfl
              refine reads_step (v := ?vv74) (by rfl) (fun _ => trivial) ?hh74 ?rr74
              case hh74 =>
                intro w9 hw9
                obtain ⟨r1, r2, r3, r4⟩ := rd7 w9 hw9
                go_simp
                try with_reducible rfl
              refine reads_step (v := ?vv75) (by rfl) (fun _ => trivial) ?hh75 ?rr75
              case hh75 =>
                intro w9 hw9
                obtain ⟨r1, r2, r3, r4⟩ := rd7 w9 hw9
                go_simp
                try with_reducible rfl
              refine reads_step (v := ?vv76) (by rfl) (fun _ => trivial) ?hh76 ?rr76
              case hh76 =>
                intro w9 hw9
                obtain ⟨r1, r2, r3, r4⟩ := rd7 w9 hw9
                go_simp
                try with_reducible rfl
              refine reads_step (v := ?vv77) (by rfl) (fun _ => trivial) ?hh77 ?rr77
              case hh77 =>
                intro w9 hw9
                obtain ⟨r1, r2, r3, r4⟩ := rd7 w9 hw9
                go_simp
                try with_reducible rfl
              refine reads_step (v := ?vv78) (by go_simp) (fun _ => trivial) ?hh78 ?rr78
              case hh78 =>
                intro w9 hw9
                obtain ⟨r1, r2, r3, r4⟩ := rd7 w9 hw9
                go_simp
                try with_reducible rfl
              refine reads_step (v := ?vv79) (by go_simp) (fun _ => trivial) ?hh79 ?rr79
              case hh79 =>
                intro w9 hw9
                obtain ⟨r1, r2, r3, r4⟩ := rd7 w9 hw9
                go_simp
                try with_reducible rfl
              refine reads_step (v := ?vv80) (by go_simp) (fun _ => trivial) ?hh80 ?rr80
              case hh80 =>
                intro w9 hw9
                obtain ⟨r1, r2, r3, r4⟩ := rd7 w9 hw9
                go_simp
                try with_reducible rfl
              refine reads_step (v := ?vv81) (by go_simp) (fun _ => trivial) ?hh81 ?rr81
              case hh81 =>
                intro w9 hw9
                obtain ⟨r1, r2, r3, r4⟩ := rd7 w9 hw9
                go_simp
                try with_reducible rfl
              refine reads_step (v := ?vv82) (by go_simp) (fun _ => trivial) ?hh82 ?rr82
              case hh82 =>
                intro w9 hw9
                obtain ⟨r1, r2, r3, r4⟩ := rd7 w9 hw9
                go_simp
                try with_reducible rfl
              refine reads_step (v := ?vv83) (by rfl) (fun _ => trivial) ?hh83 ?rr83
              case hh83 =>
                intro w9 hw9
                obtain ⟨r1, r2, r3, r4⟩ := rd7 w9 hw9
                go_simp
                try with_reducible rfl
              refine reads_step (v := ?vv84) (by rfl) (fun _ => trivial) ?hh84 ?rr84
              case hh84 =>
                intro w9 hw9
                obtain ⟨r1, r2, r3, r4⟩ := rd7 w9 hw9
                go_simp
                try with_reducible rfl
              refine reads_step (v := ?vv85) (by go_simp) (fun _ => trivial) ?hh85 ?rr85
              case hh85 =>
                intro w9 hw9
                obtain ⟨r1, r2, r3, r4⟩ := rd7 w9 hw9
                go_simp
                try with_reducible rfl
              refine reads_step (v := ?vv86) (by go_simp) (fun _ => trivial) ?hh86 ?rr86
              case hh86 =>
                intro w9 hw9
                obtain ⟨r1, r2, r3, r4⟩ := rd7 w9 hw9
                go_simp
                try with_reducible rfl
              refine reads_step (v := ?vv87) (by go_simp) (fun _ => trivial) ?hh87 ?rr87
              case hh87 =>
                intro w9 hw9
                obtain ⟨r1, r2, r3, r4⟩ := rd7 w9 hw9
                go_simp
                try with_reducible rfl
              refine reads_step (v := ?vv88) (by go_simp) (fun _ => trivial) ?hh88 ?rr88
              case hh88 =>
                intro w9 hw9
                obtain ⟨r1, r2, r3, r4⟩ := rd7 w9 hw9
                go_simp
                try with_reducible rfl
              refine reads_step (v := ?vv89) (by go_simp) (fun _ => trivial) ?hh89 ?rr89
              case hh89 =>
                intro w9 hw9
                obtain ⟨r1, r2, r3, r4⟩ := rd7 w9 hw9
                go_simp
                try with_reducible rfl
              refine reads_step (v := ?vv90) (by go_simp) (fun _ => trivial) ?hh90 ?rr90
              case hh90 =>
                intro w9 hw9
                obtain ⟨r1, r2, r3, r4⟩ := rd7 w9 hw9
                go_simp
                try with_reducible rfl
              refine reads_step (v := ?vv91) (by rfl) (fun _ => trivial) ?hh91 ?rr91
              case hh91 =>
                intro w9 hw9
                obtain ⟨r1, r2, r3, r4⟩ := rd7 w9 hw9
                go_simp
                try with_reducible rfl
              refine reads_nil (tail_nil rfl (And.intro ?_ rfl))
              go_simp
            rintro a w9 ⟨rfl, rfl⟩
            clear rd7
            gi_wp2_with fail
            have hs9 := hDd.set hR xv qx
            exact ⟨((KeepsOthers.drew W).trans (KeepsOthers.setCell W.drew _ _)).from _, ⟨((Below.refl _ W).drew).setCell (p := ⟨_, _, none⟩) (by simp; omega) _, fun k h1 h2 => Below.heap_setCell W.drew ⟨W1.heap.size, xv, none⟩ _ k (by simp; omega)⟩, ⟨q.set xv qx, hnx, hqo.set xv (by omega), hs9, hAd.other (by omega) _ _⟩⟩
          · rw [if_pos ⟨hxn, hq1, hqa⟩] at hnx
            have hqn : (qx != af) = true := by simp [hqa]
            refine wpIn_mono (Q := OnlyN fun a wz => a = { tmps := #[.slice (some ⟨lb, lo, none⟩) l.length lc, .pointer (some ⟨w.heap.size, 0, none⟩), .pointer (some ⟨w.heap.size + 1, 0, none⟩), .pointer (some ⟨w.heap.size + 1 + 1, 0, none⟩), .int .i64 0, .pointer (some ⟨W1.heap.size + 1, 0, none⟩), u6, .int .i64 (i : Nat), (.pointer (some ⟨w'.heap.size, 0, none⟩)), .pointer (some ⟨(w'.heap.size + 1), 0, none⟩), .int .i64 (xv : Nat), .slice (some ⟨lb, lo, none⟩) l.length lc, .int .i64 0, .int .i64 0, .bool false, undef, .slice (some ⟨lb, lo, none⟩) l.length lc, .int .i64 (l.length : Nat), .int .i64 ((l.length : Nat) + 1), .slice (some ⟨W1.heap.size, 0, none⟩) (l.length + 1) (l.length + 1), .slice (some ⟨W1.heap.size, 0, none⟩) (l.length + 1) (l.length + 1), .int .i64 ((l.length : Nat) + 1), .int .i64 ((l.length + 1 : Nat) : Int), .bool false, u24, u25, u26, u27, u28, .slice (some ⟨W1.heap.size, 0, none⟩) (l.length + 1) (l.length + 1), .pointer (some ⟨W1.heap.size, 0, none⟩), .slice (some ⟨lb, lo, none⟩) l.length lc, .int .i64 (l.length : Nat), .int .i64 (i : Nat), .bool true, .int .i64 (i : Nat), .pointer (some ⟨lb, lo + i * 2, none⟩), .agg #[.int .i64 (op : Nat), .int .i64 arg], .slice (some ⟨W1.heap.size, 0, none⟩) (l.length + 1) (l.length + 1), .int .i64 (i : Nat), .pointer (some ⟨W1.heap.size, i, none⟩), .int .i64 oi, .bool false, .slice (some ⟨W1.heap.size, 0, none⟩) (l.length + 1) (l.length + 1), .int .i64 (i : Nat), .pointer (some ⟨W1.heap.size, i, none⟩), .int .i64 oi, .pointer (some ⟨w'.heap.size, 0, none⟩), .int .i64 (op : Nat), .pointer (some ⟨0, op, none⟩), .int .i64 pz, .int .i64 (oi - pz), .pointer (some ⟨w'.heap.size, 0, none⟩), .int .i64 (op : Nat), .pointer (some ⟨1, op, none⟩), .int .i64 qz, .int .i64 af, .slice (some ⟨W1.heap.size, 0, none⟩) (l.length + 1) (l.length + 1), .int .i64 (i : Nat), .pointer (some ⟨W1.heap.size, i, none⟩), .int .i64 oi, .pointer (some ⟨w'.heap.size, 0, none⟩), .int .i64 (op : Nat), .pointer (some ⟨0, op, none⟩), .int .i64 pz, .bool false, .bool false, .int .i64 af, .bool false, .bool false, .agg #[.int .i64 (op : Nat), .int .i64 arg], .int .i64 (i : Nat), .func (.func 58) #[] #[.pointer (some ⟨w'.heap.size + 1 + 1, 0, none⟩), .pointer (some ⟨w'.heap.size + 1 + 1 + 1, 0, none⟩)], .int .i64 (xv : Nat), .int .i64 (xv : Nat), .slice (some ⟨lb, lo, none⟩) l.length lc, .int .i64 (l.length : Nat), .bool true, .bool true, .slice (some ⟨W1.heap.size, 0, none⟩) (l.length + 1) (l.length + 1), .int .i64 (xv : Nat), .pointer (some ⟨W1.heap.size, xv, none⟩), .int .i64 qx, .bool true, .bool true, .bool true, .slice (some ⟨W1.heap.size, 0, none⟩) (l.length + 1) (l.length + 1), .int .i64 (xv : Nat), .pointer (some ⟨W1.heap.size, xv, none⟩), .int .i64 qx, .int .i64 af, .bool true, .bool true, v93, v94, v95, v96, v97, undef, undef, undef, undef, undef, undef], defers := [] } ∧ wz = W.drew) ?_ (only_mono ?_)
            · refine wpIn_region_reads 19 19 (fun w9 => w9 = W.drew) rfl (by kernel_rfl) (by kernel_rfl) (fun _ _ _ _ h => h) ?_
              simp only [List.take_succ_cons, List.take_zero]
              refine reads_step (v := ?vv92) (by rfl) (fun _ => trivial) ?hh92 ?rr92
              case hh92 =>
                intro w9 hw9
                obtain ⟨r1, r2, r3, r4⟩ := rd7 w9 hw9
                go_simp
                try with_reducible rfl
              refine reads_step (v := ?vv93) (by rfl) (fun _ => trivial) ?hh93 ?rr93
              case hh93 =>
                intro w9 hw9
                obtain ⟨r1, r2, r3, r4⟩ := rd7 w9 hw9
                go_simp
                try with_reducible rfl
              refine reads_step (v := ?vv94) (by rfl) (fun _ => trivial) ?hh94 ?rr94
              case hh94 =>
                intro w9 hw9
                obtain ⟨r1, r2, r3, r4⟩ := rd7 w9 hw9
                go_simp
                try with_reducible rfl
              refine reads_step (v := ?vv95) (by rfl) (fun _ => trivial) ?hh95 ?rr95
              case hh95 =>
                intro w9 hw9
                obtain ⟨r1, r2, r3, r4⟩ := rd7 w9 hw9
                go_simp
                try with_reducible rfl
              refine reads_step (v := ?vv96) (by rfl) (fun _ => trivial) ?hh96 ?rr96
              case hh96 =>
                intro w9 hw9
                obtain ⟨r1, r2, r3, r4⟩ := rd7 w9 hw9
                go_simp
                try with_reducible rfl
              refine reads_step (v := ?vv97) (by go_simp) (fun _ => trivial) ?hh97 ?rr97
              case hh97 =>
                intro w9 hw9
                obtain ⟨r1, r2, r3, r4⟩ := rd7 w9 hw9
                go_simp
                try with_reducible rfl
              refine reads_step (v := ?vv98) (by go_simp) (fun _ => trivial) ?hh98 ?rr98
              case hh98 =>
                intro w9 hw9
                obtain ⟨r1, r2, r3, r4⟩ := rd7 w9 hw9
                go_simp
                try with_reducible rfl
              refine reads_step (v := ?vv99) (by go_simp) (fun _ => trivial) ?hh99 ?rr99
              case hh99 =>
                intro w9 hw9
                obtain ⟨r1, r2, r3, r4⟩ := rd7 w9 hw9
                go_simp
                try with_reducible rfl
              refine reads_step (v := ?vv100) (by go_simp) (fun _ => trivial) ?hh100 ?rr100
              case hh100 =>
                intro w9 hw9
                obtain ⟨r1, r2, r3, r4⟩ := rd7 w9 hw9
                go_simp
                try with_reducible rfl
              refine reads_step (v := ?vv101) (by go_simp) (fun _ => trivial) ?hh101 ?rr101
              case hh101 =>
                intro w9 hw9
                obtain ⟨r1, r2, r3, r4⟩ := rd7 w9 hw9
                go_simp
                try with_reducible rfl
              refine reads_step (v := ?vv102) (by rfl) (fun _ => trivial) ?hh102 ?rr102
              case hh102 =>
                intro w9 hw9
                obtain ⟨r1, r2, r3, r4⟩ := rd7 w9 hw9
                go_simp
                try with_reducible rfl
              refine reads_step (v := ?vv103) (by rfl) (fun _ => trivial) ?hh103 ?rr103
              case hh103 =>
                intro w9 hw9
                obtain ⟨r1, r2, r3, r4⟩ := rd7 w9 hw9
                go_simp
                try with_reducible rfl
              refine reads_step (v := ?vv104) (by go_simp) (fun _ => trivial) ?hh104 ?rr104
              case hh104 =>
                intro w9 hw9
                obtain ⟨r1, r2, r3, r4⟩ := rd7 w9 hw9
                go_simp
                try with_reducible rfl
              refine reads_step (v := ?vv105) (by go_simp) (fun _ => trivial) ?hh105 ?rr105
              case hh105 =>
                intro w9 hw9
                obtain ⟨r1, r2, r3, r4⟩ := rd7 w9 hw9
                go_simp
                try with_reducible rfl
              refine reads_step (v := ?vv106) (by go_simp) (fun _ => trivial) ?hh106 ?rr106
              case hh106 =>
                intro w9 hw9
                obtain ⟨r1, r2, r3, r4⟩ := rd7 w9 hw9
                go_simp
                try with_reducible rfl
              refine reads_step (v := ?vv107) (by go_simp) (fun _ => trivial) ?hh107 ?rr107
              case hh107 =>
                intro w9 hw9
                obtain ⟨r1, r2, r3, r4⟩ := rd7 w9 hw9
                go_simp
                try with_reducible rfl
              refine reads_step (v := ?vv108) (by go_simp) (fun _ => trivial) ?hh108 ?rr108
              case hh108 =>
                intro w9 hw9
                obtain ⟨r1, r2, r3, r4⟩ := rd7 w9 hw9
                go_simp
                try with_reducible rfl
              refine reads_step (v := ?vv109) (by go_simp) (fun _ => trivial) ?hh109 ?rr109
              case hh109 =>
                intro w9 hw9
                obtain ⟨r1, r2, r3, r4⟩ := rd7 w9 hw9
                go_simp
                try with_reducible rfl
              refine reads_step (v := ?vv110) (by rfl) (fun _ => trivial) ?hh110 ?rr110
              case hh110 =>
                intro w9 hw9
                obtain ⟨r1, r2, r3, r4⟩ := rd7 w9 hw9
                go_simp
                try with_reducible rfl
              refine reads_nil (tail_nil rfl (And.intro ?_ rfl))
              go_simp
            rintro a w9 ⟨rfl, rfl⟩
            clear rd7
            gi_wp2_with fail
            exact ⟨((KeepsOthers.drew W).trans ((KeepsOthers.setCell W.drew _ _).trans (KeepsOthers.setCell _ _ _))).from _, rfl, hnx, ⟨(hDd.c2.set' 0 (.slice none 0 0) rfl).other (by omega) _ _, (hDd.c3.other (B' := w.heap.size + 1) (by omega) 0 _).set' 0 (.int .i64 13) rfl, (hDd.m.set hDd.c2 _ _).set (hDd.c3.other (by omega) _ _) _ _, (hDd.be.setCell (p := ⟨_, _, none⟩) (by simp) _).setCell (p := ⟨_, _, none⟩) (by simp; omega) _⟩⟩
        case done =>
          rintro D zs W hDn hz hi' hK
          rw [hz, ← hstep] at hi'
          obtain ⟨q, hq, hqo, hDq, hAq⟩ := hi'
          have hmx : D ∉ ds := fun h => by have := hds7 D h; omega
          gi_wp2_with fail
          refine ⟨⟨i + 1, D :: ds, q, _, _, _, _, _, _, _, _, _, _, _, _, _, _, _, _, _, _, _, _, _, _, _, _, _, _, _, _, _, _, _, _, _, _, _, _, _, _, _, _, _, _, _, _, _, _, _, _, _, _, _, _, _, _, _, _, _, _, _, _, _, _, _, _, _, _, _, _, rfl, by omega, hq, hqo, ⟨hDq.b1, hDq.c2, hDq.c3, hDq.r, hDq.b5, hDq.m.cons hmx (by omega) hK, hDq.be⟩⟩, by simp [slotMu, intOf]; omega⟩
        case stop =>
          rintro D c pre W hDn ⟨rest, hrest⟩ ⟨rfl, hnone, hXX⟩ hK
          have hmx : D ∉ ds := fun h => by have := hds7 D h; omega
          rw [hrest, dfold_append, hnone, dfold_none] at hstep
          gi_wp2_with fail
          exact dep_end (l := l) (z := 13) (ds := D :: ds) (B := W1.heap.size + 1 + 1) rfl rfl hXX.c2 hXX.c3 (hXX.m.cons hmx (by omega) hK) (by omega) hXX.be (by unfold depE; rw [if_pos hc, depS_none hstep (by omega)]; try rfl)
end
end Go.Proofs.YtlhagkbhojmjpaaDoor
