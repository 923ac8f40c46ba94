/- view.Of, walked by hand. -/
import Derived.Test.YtlhagkbhojmjpaaDoorKf
namespace Go.Proofs.YtlhagkbhojmjpaaDoor
set_option linter.unusedSimpArgs false
set_option linter.unusedVariables false
set_option linter.unusedSectionVars false
set_option linter.unnecessarySimpa false
section
open Go.RowKit Go.Shelf
attribute [local go_sem] Oper.semAt_some
def RRow (R : List (List Zl)) (v : Value) (W : World) : Prop := (R.length = 0 ∧ ∃ a cap, v = .slice a 0 cap) ∨ ∃ g off cap, ∃ vals : Nat → Value, v = .slice (some ⟨g, off, none⟩) R.length cap ∧ g < W.heap.size ∧ ∀ i, i < R.length → W.cell? ⟨g, off + i, none⟩ = some (vals i) ∧ ZRow (rw' R i) (vals i) W
theorem RRow.val {R : List (List Zl)} {v : Value} {W : World} (h : RRow R v W) : ∃ a cap, v = .slice a R.length cap := by
  rcases h with ⟨h0, a, cap, e⟩ | ⟨g, off, cap, vals, e, _⟩
  · exact ⟨a, cap, by rw [h0]; exact e⟩
  · exact ⟨_, cap, e⟩
def viT (z0 z1 : Int) (rv : Value) (z6 z7 : Int) (b27 : Bool) : Array Value := #[.int .i64 z0, .int .i64 z1, rv, .int .i64 z6, .int .i64 z7, .bool b27]
structure OfI (w : World) (b2 b3 : Nat) (z0 z1 z6 z7 : Int) (b27 : Bool) (R : List (List Zl)) (k : Nat) (W : World) : Prop where
  v : ∃ rv vals, HasC W b3 (viT z0 z1 rv z6 z7 b27) 61 ∧ W.ownsRow w.heap.size 23 1 rv k vals ∧ ∀ i, i < k → ∃ u, vals[i]? = some u ∧ RepT (MG w.heap.size W) (.slice true [.str, .bool, .int .i64]) (glsT (viewR (rw' R i))) u
  r : HasC W b2 (viT 0 0 (.slice none 0 0) 0 0 false) 61
  be : Below w.heap.size w W
theorem load_all {W : World} {b : Nat} {ts : Array Value} {T : TypeId} {n : Nat} (h : HasC W b ts T) (ha : aggP Tryd.prog T = some true) (hs : sizeP Tryd.prog T = some n) (hn : ts.size = n) : (Instr.loadAt T (.pointer (some ⟨b, 0, none⟩))).run Tryd.prog W = .ok (.agg ts) W := by
  have hrun := run_loadCells (P := Tryd.prog) W ⟨b, 0, none⟩ n (fun j => ts.getD j undef) (fun j hj => by
    rw [Addr.add_lit, Nat.zero_add]
    refine h.cell j ?_
    rw [← hn] at hj
    simp [hj])
  simp only [Instr.loadAt, Instr.sureAddr, loadVar, Sem.run_bind, Sem.run_pure, Result.andThen_ok, zv1 ha, if_true, zgn hs, hrun]
  have e : (List.map (fun j => ts.getD j undef) (List.range n)).toArray = ts := by
    apply Array.ext
    · simp [hn]
    · intro i h1 h2
      simp [h2]
  rw [e]
theorem wpListIn_load {F : Fence} {n : Nat} {P : Program} {w : World} {ops : Array Oper} {rest : List Oper} {o : Oper} {a : Act} {Q : Exit → Act → World → Prop} {t : TypeId} {x : Operand} {v : Value}
    (hg : o.guard = none) (hop : o.op = Op.load t x) (hv : (Instr.loadAt t (a.eval x)).run P w = .ok v w) (hK : wpListIn F n P ops Q rest (a.put o.dst v) w) : wpListIn F n P ops Q (o :: rest) a w := by
  refine wpListIn_plain hg fun K hK' => ?_
  unfold Oper.wpIn
  refine ⟨?_, ?_⟩
  · simp [Oper.about, hop, resolve, Target.leads, Sem.run_pure]
  · rw [Oper.semAt_plain F _ _ (by rw [hop]; intro c hc'; cases hc')]
    simp [execOp, hop, hv, Result.andThen]
    exact hK' _ _ hK
theorem resV {W : World} {b : Nat} {x0 x1 x2 x3 x4 x5 : Value} (h : HasC W b #[x0, x1, x2, x3, x4, x5] 61) {tmps : Array Value} (ht : tmps.getD 2 undef = .pointer (some ⟨b, 0, none⟩)) : (results Tryd.f15 tmps).run Tryd.prog W = .ok (.agg #[x0, x1, x2, x3, x4, x5]) W := by
  have r0 := h.cell 0 rfl
  have r1 := h.cell 1 rfl
  have r2 := h.cell 2 rfl
  have r3 := h.cell 3 rfl
  have r4 := h.cell 4 rfl
  have r5 := h.cell 5 rfl
  simp at ht
  simp [results, Tryd.f15, go_sem, ht, r0, r1, r2, r3, r4, r5]
structure TrmV (ts : Array Value) (z0 z1 z6 z7 : Int) (b27 : Bool) (a2 : Option Addr) (n2 c2 : Nat) : Prop where
  n : ts.size = 42
  h0 : ts[0]? = some (.int .i64 z0)
  h1 : ts[1]? = some (.int .i64 z1)
  h2 : ts[2]? = some (.slice a2 n2 c2)
  h6 : ts[6]? = some (.int .i64 z6)
  h7 : ts[7]? = some (.int .i64 z7)
  h27 : ts[27]? = some (.bool b27)
theorem HasC.not_row {W : World} {B : Nat} {cs : Array Value} {t e : TypeId} (h : HasC W B cs t) (hte : t ≠ e) {base size k : Nat} {v : Value} {xs : List Value} (hr : W.ownsRow base e size v k xs) : some B ≠ v.ownBlock := by
  rcases hr.2 with ⟨rfl, _⟩ | ⟨g, cap, cur, rfl, _, hgb, _⟩
  · simp [Value.ownBlock]
  · intro e'
    obtain rfl : B = g := by simpa [Value.ownBlock] using e'
    have := (show W.heap[B]? = _ from h).symm.trans hgb
    simp at this
    exact hte this.2
theorem qpq (W : World) (b i : Nat) (v : Value) : W.grownBy (W.setCell ⟨b, i, none⟩ v) (some b) := ⟨rfl, rfl, rfl, by simp, fun k _ hk => Below.heap_setCell W ⟨b, i, none⟩ v k (fun h => hk (by rw [h]))⟩
theorem grT {A B C : World} {r : Option Nat} (h : A.grownBy B r) (k : B.grownBy C r) : A.grownBy C r := ⟨k.os.trans h.os, k.tape.trans h.tape, k.output.trans h.output, Nat.le_trans h.size k.size, fun i hi hr => (k.block i (Nat.lt_of_lt_of_le hi h.size) hr).trans (h.block i hi hr)⟩
theorem MG.low {B B' : Nat} (h : B ≤ B') (W : World) : Mem.le (MG B' W) (MG B W) := fun g o hg => ⟨hg.1, Nat.le_trans h hg.2.1, hg.2.2⟩
theorem rep_sl {M : Mem} {ag : Bool} {cs : List CT} {t : TV} {v : Value} (h : RepT M (.slice ag cs) t v) : ∃ a n c, v = .slice a n c := by
  cases h with
  | empty _ _ _ a cap => exact ⟨a, 0, cap, rfl⟩
  | slice _ _ _ g off cap => exact ⟨_, _, cap, rfl⟩
theorem own_sl {W : World} {base : Nat} {e : TypeId} {size : Nat} {v : Value} {k : Nat} {xs : List Value} (h : W.ownsRow base e size v k xs) : ∃ a c, v = .slice a k c := by
  rcases h.2 with ⟨rfl, h0⟩ | ⟨g, cap, _, rfl, _⟩
  · exact ⟨none, 0, by rw [h0]⟩
  · exact ⟨_, cap, rfl⟩
theorem not_gl {W : World} {b : Nat} {cs : Array Value} {t : TypeId} (h : HasC W b cs t) (ht : t ≠ 107) : ∀ g, some b = some g → ∀ cur fr, W.heap[g]? ≠ some (.cells cur 107 fr) := fun g e cur fr k => by
  cases e
  have := (show W.heap[b]? = _ from h).symm.trans k
  simp at this
  exact ht this.2.1
theorem row_not_gl {W : World} {base : Nat} {e : TypeId} {size : Nat} {v : Value} {k : Nat} {xs : List Value} (h : W.ownsRow base e size v k xs) (he : e ≠ 107) : ∀ g, v.ownBlock = some g → ∀ cur fr, W.heap[g]? ≠ some (.cells cur 107 fr) := fun g hg cur fr k => by
  rcases h.2 with ⟨rfl, _⟩ | ⟨b, cap, cur', rfl, _, hb, _⟩
  · cases hg
  · obtain rfl : b = g := by simpa [Value.ownBlock] using hg
    rw [hb] at k
    simp at k
    exact he k.2.1
theorem rep_rows {w W : World} {R : List (List Zl)} {rv : Value} {vals : List Value} (hrow : W.ownsRow w.heap.size 23 1 rv R.length vals) (hrep : ∀ i, i < R.length → ∃ u, vals[i]? = some u ∧ RepT (MG w.heap.size W) (.slice true [.str, .bool, .int .i64]) (glsT (viewR (rw' R i))) u) :
    RepT (Proofs.YtlhagkbhojmjpaaDoor.fresh W (fun _ => False) w.heap.size) (.slice false [.slice true [.str, .bool, .int .i64]]) (.list (R.map fun l => glsT (viewR l))) rv := by
  have hlen : (TV.list (R.map fun l => glsT (viewR l))).asList.length = R.length := by simp [TV.asList]
  rcases hrow.2 with ⟨rfl, h0⟩ | ⟨g, cap, cur, rfl, hb, hh, h1, h2, h3, h4⟩
  · exact .empty false _ _ none 0 (List.eq_nil_of_length_eq_zero (hlen.trans h0)) (fun _ => rfl) (Nat.zero_le _)
  · have hx : ∀ k, k < R.length → cur[k]? = vals[k]? := fun k hk => by
      rw [← h4, List.getElem?_take, if_pos (by omega), Array.getElem?_toList]
    have key := RepT.slice (M := Proofs.YtlhagkbhojmjpaaDoor.fresh W (fun _ => False) w.heap.size) false [.slice true [.str, .bool, .int .i64]] (.list (R.map fun l => glsT (viewR l))) g 0 cap cur 23 (0, 0) (fun i c => (vals[i]?).getD undef) ⟨hh, id, hb⟩ (by rw [hlen]; exact h1) h2 (fun i hi c hc => ?_) (fun i hi c hc => ?_)
    · rw [hlen] at key; exact key
    · rw [hlen] at hi
      have hc0 : c = 0 := by simp at hc; exact hc
      subst hc0
      obtain ⟨u, k1, _⟩ := hrep i hi
      show cur[0 + i * 1 + 0]? = _
      rw [show 0 + i * 1 + 0 = i by omega, hx i hi, k1]
      rfl
    · rw [hlen] at hi
      have hc0 : c = 0 := by simp at hc; exact hc
      subst hc0
      obtain ⟨u, k1, k2⟩ := hrep i hi
      rw [k1]
      have e : zbk false ((TV.list (R.map fun l => glsT (viewR l))).asList[i]'(by rw [hlen]; exact hi)) 0 = glsT (viewR (rw' R i)) := by
        unfold rw'
        simp [zbk, TV.asList, List.getD_eq_getElem?_getD, hi]
      rw [e]
      exact k2.mono (MG.fresh _ _)
def ofA (ts : Array Value) (n1 b3 : Nat) (row : Value) (z0 z1 z6 z7 : Int) (b27 : Bool) (g off rn c2 k : Nat) (u43 u34 u35 u36 u37 u38 u39 u40 u41 u42 : Value) : Act := { tmps := #[.agg ts, .pointer (some ⟨n1, 0, none⟩), .pointer (some ⟨n1 + 1, 0, none⟩), .pointer (some ⟨b3, 0, none⟩), undef, row, .agg ts, .bool true, .bool false, undef, .pointer (some ⟨n1, 0, none⟩), .pointer (some ⟨n1, 0, none⟩), .int .i64 z0, .pointer (some ⟨n1, 0, none⟩), .pointer (some ⟨n1, 1, none⟩), .int .i64 z1, .pointer (some ⟨n1, 6, none⟩), .pointer (some ⟨n1, 6, none⟩), .int .i64 z6, .pointer (some ⟨n1, 6, none⟩), .pointer (some ⟨n1, 7, none⟩), .int .i64 z7, .pointer (some ⟨n1, 22, none⟩), .pointer (some ⟨n1, 27, none⟩), .bool b27, .agg #[.int .i64 z0, .int .i64 z1, .slice none 0 0, .int .i64 z6, .int .i64 z7, .bool b27], .pointer (some ⟨n1, 0, none⟩), .pointer (some ⟨n1, 2, none⟩), .slice (some ⟨g, off, none⟩) rn c2, .int .i64 (rn : Nat), .int .i64 (k : Nat), .bool true, .pointer (some ⟨g, off + k, none⟩), row, u34, u35, u36, u37, u38, u39, u40, u41, u42, u43, undef], defers := [] }
def OfP (w : World) (ts : Array Value) (b3 : Nat) (row : Value) (z0 z1 z6 z7 : Int) (b27 : Bool) (g off rn c2 k : Nat) (R : List (List Zl)) (u43 : Value) : Act → World → Prop := fun a wz => ∃ u34 u35 u36 u37 u38 u39 u40 u41 u42, a = ofA ts w.heap.size b3 row z0 z1 z6 z7 b27 g off rn c2 k u43 u34 u35 u36 u37 u38 u39 u40 u41 u42 ∧ OfI w (w.heap.size + 1) b3 z0 z1 z6 z7 b27 R (k + 1) wz
theorem slI : ∃ i, Tryd.prog.info? 23 = some i ∧ i.zero = some (.slice none 0 0) ∧ i.size = 1 ∧ i.bytes = 24 := info_parts (by kernel_rfl)
set_option maxRecDepth 100000 in
set_option maxHeartbeats 16000000 in
theorem of_in {w : World} (hG : GlobOk (mkEnv globT []) gtabU w) (ts : Array Value) (z0 z1 z6 z7 : Int) (b27 : Bool) (a2 : Option Addr) (n2 c2 : Nat) (hT : TrmV ts z0 z1 z6 z7 b27 a2 n2 c2) (R : List (List Zl)) (hR : RRow R (.slice a2 n2 c2) w) (hR9 : R.length ≤ 1000000) (sb : Bool)
    (hSho : ∀ W1, Below w.heap.size w W1 → Calls Tryd.prog 37 #[.agg ts] W1 fun e w' => e = .returned (.bool sb) ∧ Below W1.heap.size W1 w') :
    Calls Tryd.prog 15 #[.agg ts] w fun e w' => (sb = false ∧ e = .returned (.agg (viT 0 0 (.slice none 0 0) 0 0 false)) ∧ Below w.heap.size w w') ∨
      (sb = true ∧ ∃ rv, e = .returned (.agg (viT z0 z1 rv z6 z7 b27)) ∧ RepT (Proofs.YtlhagkbhojmjpaaDoor.fresh w' (fun _ => False) w.heap.size) (.slice false [.slice true [.str, .bool, .int .i64]]) (.list (R.map fun l => glsT (viewR l))) rv ∧ Below w.heap.size w w') := by
  obtain ⟨_, _, e⟩ := hR.val
  simp only [Value.slice.injEq] at e
  obtain ⟨rfl, rfl, rfl⟩ := e
  refine (callsIn_wide (n := 8)).1 ?_
  refine callsIn_of_wp Tryd.func15 rfl trivial ?_ rfl
  simp only [Tryd.ntmps15, List.size_toArray, List.length_cons, List.length_nil, Nat.reduceAdd, Nat.reduceSub, Array.replicate_succ, Array.replicate_zero, List.push_toArray, List.append_toArray, List.nil_append, List.cons_append]
  have hld := load_all (((HasC.new w ts 53).alloc (.cells #[.int .i64 0, .int .i64 0, .slice none 0 0, .int .i64 0, .int .i64 0, .bool false] 61))) (by kernel_rfl) (by kernel_rfl) hT.n
  gi_wp2_with (refine wpListIn_load (t := 53) rfl rfl hld ?_)
  refine ⟨trivial, ?_⟩
  clear hld
  generalize hW0 : (w.alloc (.cells ts 53)).alloc (.cells #[.int .i64 0, .int .i64 0, .slice none 0 0, .int .i64 0, .int .i64 0, .bool false] 61) = W0
  have hB0 : Below w.heap.size w W0 := by rw [← hW0]; exact ((Below.refl _ w).alloc (Nat.le_refl _) _).alloc (by simp) _
  have h1 : HasC W0 w.heap.size ts 53 := by rw [← hW0]; exact (HasC.new w ts _).alloc _
  have h2 : HasC W0 (w.heap.size + 1) (viT 0 0 (.slice none 0 0) 0 0 false) 61 := by
    rw [← hW0]
    have := HasC.new (w.alloc (.cells ts 53)) (viT 0 0 (.slice none 0 0) 0 0 false) 61
    rwa [World.size_alloc] at this
  clear hW0
  refine (callsIn_wide.2 (hSho W0 hB0)).mono ?_
  rintro e W1 ⟨rfl, hb1⟩
  have hB1 := hB0.trans (hb1.mono hB0.size)
  have k1 := h1.below hb1 h1.lt
  have k2 := h2.below hb1 h2.lt
  clear h1 h2 hb1 hB0 hSho
  have hs1 := k2.lt
  cases sb with
  | false =>
    have y0 := k2.cell 0 rfl
    have y1 := k2.cell 1 rfl
    have y2 := k2.cell 2 rfl
    have y3 := k2.cell 3 rfl
    have y4 := k2.cell 4 rfl
    have y5 := k2.cell 5 rfl
    have g0 := k2.frozen 0
    have g1 := k2.frozen 1
    have g2 := k2.frozen 2
    have g3 := k2.frozen 3
    have g4 := k2.frozen 4
    have g5 := k2.frozen 5
    gi_wp2_with fail
    refine ⟨rfl, _, resV (b := w.heap.size + 1) ((((((k2.set' 0 _ rfl).set' 1 _ rfl).set' 2 _ rfl).set' 3 _ rfl).set' 4 _ rfl).set' 5 _ rfl) rfl, rfl, ?_⟩
    exact (((((hB1.setCell (p := ⟨_, _, none⟩) (by simp) _).setCell (p := ⟨_, _, none⟩) (by simp) _).setCell (p := ⟨_, _, none⟩) (by simp) _).setCell (p := ⟨_, _, none⟩) (by simp) _).setCell (p := ⟨_, _, none⟩) (by simp) _).setCell (p := ⟨_, _, none⟩) (by simp) _
  | true =>
    have x0 := k1.cell 0 hT.h0
    have x1 := k1.cell 1 hT.h1
    have x2 := k1.cell 2 hT.h2
    have x6 := k1.cell 6 hT.h6
    have x7 := k1.cell 7 hT.h7
    have x27 := k1.cell 27 hT.h27
    gi_wp2_with fail
    have hI0 : OfI w (w.heap.size + 1) W1.heap.size z0 z1 z6 z7 b27 R 0 (W1.alloc (.cells #[.int .i64 z0, .int .i64 z1, .slice none 0 0, .int .i64 z6, .int .i64 z7, .bool b27] 61)) :=
      ⟨⟨.slice none 0 0, [], HasC.new W1 _ _, ⟨rfl, .inl ⟨rfl, rfl⟩⟩, fun i h => absurd h (Nat.not_lt_zero i)⟩, k2.alloc _, hB1.alloc hB1.size _⟩
    clear k1 k2 x0 x1 x2 x6 x7 x27 hT
    gi_loopw [30] (fun vi wr => ∃ k : Nat, vi = .int .i64 (k : Nat) ∧ k ≤ R.length ∧ OfI w (w.heap.size + 1) W1.heap.size z0 z1 z6 z7 b27 R k wr) (fun vi _ => R.length - (intOf vi).toNat)
    case atStart => exact ⟨0, rfl, Nat.zero_le _, hI0⟩
    case round =>
      clear hI0
      obtain ⟨k, rfl, hkn, hI⟩ := hrel
      obtain ⟨⟨rv, vals, hv3, hrow, hrep⟩, hk2, hbe⟩ := hI
      have hv3 : HasC wr W1.heap.size #[.int .i64 z0, .int .i64 z1, rv, .int .i64 z6, .int .i64 z7, .bool b27] 61 := hv3
      have hk2 : HasC wr (w.heap.size + 1) #[.int .i64 0, .int .i64 0, .slice none 0 0, .int .i64 0, .int .i64 0, .bool false] 61 := hk2
      by_cases hlt : k < R.length
      · rcases hR with ⟨h0, _⟩ | ⟨g, off, cap, rvs, he, hgl, hcs⟩
        · omega
        simp only [Value.slice.injEq, true_and] at he
        obtain ⟨rfl, rfl⟩ := he
        obtain ⟨e0, hz⟩ := hcs k hlt
        obtain ⟨za, zc, hzv⟩ := hz.val
        rw [hzv] at e0 hz
        have e0 : wr.cell? ⟨g, off + k, none⟩ = some (.slice za (rw' R k).length zc) := (World.cell?_of_block (hbe.block g hgl)).trans e0
        have hgw : g < wr.heap.size := Nat.lt_of_lt_of_le hgl hbe.size
        gi_wp2_with fail
        refine wpIn_mono (Q := OnlyN (OfP w ts W1.heap.size (.slice za (rw' R k).length zc) z0 z1 z6 z7 b27 g off R.length c2 k R u43)) ?_ (only_mono ?_)
        · have hlw := hv3.lt
          refine wpIn_wide.2 (zph 7 (.op true 0 (.op true 1 (.op true 2 (.op false 3 (.op false 4 (.op false 5 (.op false 6 .nil))))))) rfl (by kernel_rfl) (by decide) (S := fun wz => Below wr.heap.size wr wz) ((Below.refl _ wr).drew) ?_)
          refine mx_v (v := ?vv0) rfl (by rfl) (fun _ _ _ h => h) ?hh0 ?rr0
          case hh0 =>
            intro w9 hS9
            go_simp
            try with_reducible rfl
          refine mx_v (v := ?vv1) rfl (by rfl) (fun _ _ _ h => h) ?hh1 ?rr1
          case hh1 =>
            intro w9 hS9
            have d2 := (hv3.below hS9 hlw).cell 2 rfl
            go_simp
            try with_reducible rfl
          refine mx_v (v := ?vv2) rfl (by rfl) (fun _ _ _ h => h) ?hh2 ?rr2
          case hh2 =>
            intro w9 hS9
            go_simp
            try with_reducible rfl
          refine mx_run rfl (by rfl) (fun K hK => ?_)
          go_wp2_with (go_at_call 40; refine (glyphs_fn _ za (rw' R k).length zc).mono ?_; rintro e W4' ⟨rfl, rfl⟩)
          obtain ⟨W4, hW4⟩ : ∃ W4, (wr.alloc (.cells #[.slice za (rw' R k).length zc] 56)).drew = W4 := ⟨_, rfl⟩
          have hb4 : Below wr.heap.size wr W4 := by rw [← hW4]; exact ((Below.refl _ wr).alloc (Nat.le_refl _) _).drew
          have hbox : HasC W4 wr.heap.size #[.slice za (rw' R k).length zc] 56 := by rw [← hW4]; exact HasC.new wr _ _
          rw [hW4]
          clear hW4
          refine ⟨hb4, ?_⟩
          have hbe4 : Below w.heap.size w W4 := hbe.trans (hb4.mono hbe.size)
          refine mx_run rfl (by rfl) (fun K hK => ?_)
          go_wp2_with (go_at_call 39; refine (collect_in W4 (rw' R k) _ wr.heap.size (hz.below hbe4) hbox.lt (hbox.cell 0 rfl) (fun W9 hB9 => sty_calls hG W9 (hbe4.trans (hB9.mono hbe4.size)))).mono ?_; rintro e W5 ⟨v5, rfl, ho5, hb5⟩)
          have hb5 : Below wr.heap.size wr W5 := hb4.trans (hb5.mono hb4.size)
          have hbe5 : Below w.heap.size w W5 := hbe.trans (hb5.mono hbe.size)
          have hrep5 : RepT (Proofs.YtlhagkbhojmjpaaDoor.full W5) (.slice true [.str, .bool, .int .i64]) (glsT (glyL (rw' R k))) v5 := (rep_ownG (B := 0) (by rw [zbo]; exact ho5) (rowT_gls (Proofs.YtlhagkbhojmjpaaDoor.full W5) _) (Nat.zero_le _)).mono (MG.full _ _)
          refine ⟨hb5, ?_⟩
          refine mx_run rfl (by rfl) (fun K hK => ?_)
          go_wp2_with (go_at_call 38; refine (trim_calls hG (l := glyL (rw' R k)) (Nat.le_trans (glyL_len _) hz.1) W5 hbe5 hrep5).mono ?_; rintro e W6 ⟨u, rfl, hu, hb6⟩)
          have hu : RepT (MG w.heap.size W6) (.slice true [.str, .bool, .int .i64]) (glsT (viewR (rw' R k))) u := hu.mono (MG.low hbe5.size _)
          have hb6 : Below wr.heap.size wr W6 := hb5.trans (hb6.mono hb5.size)
          have hbe6 : Below w.heap.size w W6 := hbe.trans (hb6.mono hbe.size)
          obtain ⟨ua, un, uc, rfl⟩ := rep_sl hu
          refine ⟨hb6, ?_⟩
          refine mx_run rfl (by rfl) (fun K hK => ?_)
          go_wp2_with fail
          refine ⟨hb6.alloc hb6.size _, ?_⟩
          unfold wpMix
          try simp only [List.drop_succ_cons, List.drop_zero]
          have hg6 : wr.grownBy W6 none := grown_of_below hb6
          have hrow6 := hrow.kept hg6 (by
            rcases hrow.2 with ⟨rfl, _⟩ | ⟨g, cap, cur, rfl, _⟩
            · exact .inl rfl
            · exact .inr (by simp [Value.ownBlock]))
          have hv6 := hv3.below hb6 hlw
          have hk6 := hk2.below hb6 hk2.lt
          have hrep6 : ∀ i, i < k → ∃ u, vals[i]? = some u ∧ RepT (MG w.heap.size W6) (.slice true [.str, .bool, .int .i64]) (glsT (viewR (rw' R i))) u := fun i hi => by
            obtain ⟨u, q1, q2⟩ := hrep i hi
            exact ⟨u, q1, q2.mono (MG.grown hg6 (fun g e => by cases e))⟩
          obtain ⟨i1, hi, hz0, hz1, hz2⟩ := slI
          have hw6 := hbe6.size
          have hk9 : k < 1000000 := by omega
          go_wp2_with (at_builtin; refine wpList_append_own _ rfl _ _ 59 rfl w.heap.size 23 i1 _ 1 24 Tryd.underlying59 hi hz0 hz1 hz2 rfl (by decide) rv _ _ rfl (hrow6.alloc _) ⟨W6.heap.size, 0, none⟩ 1 1 [.slice ua un uc] rfl rfl ?d1 ?d2 ?d3 ?d4 ?d5 ?d6)
          case d1 =>
            intro j u hj
            rw [Addr.add_lit, Nat.zero_add]
            exact (HasC.new W6 #[.slice ua un uc] 23).cell j (by simpa using hj)
          case d2 =>
            intro u hu
            simp only [List.mem_cons, List.not_mem_nil, or_false] at hu
            rcases hu with rfl
            rfl
          case d3 =>
            have : (1000001 : Nat) ≤ maxLen := by decide
            omega
          case d4 => omega
          case d5 => simp; omega
          case d6 =>
            intro v' w7 hown' hg7 hnil7
            obtain ⟨g', cap', rfl⟩ := ownsRow_succ hown'
            have hv7 := (hv6.alloc _).kept hg7 (hv6.not_row (by decide) hrow6)
            have hk7 := (hk6.alloc _).kept hg7 (hk6.not_row (by decide) hrow6)
            have q2 := hv7.cell 2 rfl
            have f2 := hv7.frozen 2
            have hl7 := hv7.lt
            go_wp2_with fail
            have hgs := qpq w7 W1.heap.size 2 (.slice (some ⟨g', 0, none⟩) (k + 1) cap')
            have hne : w.heap.size + 1 ≠ W1.heap.size := by omega
            have hM7 : Mem.le (MG w.heap.size W6) (MG w.heap.size (w7.setCell ⟨W1.heap.size, 2, none⟩ (.slice (some ⟨g', 0, none⟩) (k + 1) cap'))) :=
              ((MG.grown (World.grownBy_alloc W6 _ none) (fun g e => by cases e)).trans (MG.grown hg7 (row_not_gl (hrow6.alloc _) (by decide)))).trans (MG.grown hgs (not_gl hv7 (by decide)))
            have hb7 : Below w.heap.size w w7 := (hbe6.alloc hbe6.size _).grown hg7 (by simp; omega) (fun g e => (hrow6.lt g e).1)
            refine ⟨_, _, _, _, _, _, _, _, _, rfl, ⟨⟨_, _, hv7.set' 2 _ rfl, hown'.kept hgs (.inr (hv7.not_row (by decide) hown').symm), fun i hi' => ?_⟩, hk7.other hne _ _, hb7.setCell (p := ⟨_, _, none⟩) (by simp; omega) _⟩⟩
            by_cases hik : i < k
            · obtain ⟨u, r1, r2⟩ := hrep6 i hik
              exact ⟨u, by rw [List.getElem?_append_left (List.getElem?_eq_some_iff.1 r1).1]; exact r1, r2.mono hM7⟩
            · obtain rfl : i = k := by omega
              have hvl : vals.length = i := by have := hrow.1; omega
              exact ⟨_, by rw [List.getElem?_append_right (by omega), hvl, Nat.sub_self]; rfl, hu.mono hM7⟩
        · rintro a wz ⟨v34, v35, v36, v37, v38, v39, v40, v41, v42, rfl, hI'⟩
          unfold ofA
          gi_wp2_with fail
          go_roundw
          case rel => exact ⟨k + 1, by go_num, by omega, hI'⟩
          case measure => simp [intOf]; omega
      · have y0 := hk2.cell 0 rfl
        have y1 := hk2.cell 1 rfl
        have y2 := hk2.cell 2 rfl
        have y3 := hk2.cell 3 rfl
        have y4 := hk2.cell 4 rfl
        have y5 := hk2.cell 5 rfl
        have g0 := hk2.frozen 0
        have g1 := hk2.frozen 1
        have g2 := hk2.frozen 2
        have g3 := hk2.frozen 3
        have g4 := hk2.frozen 4
        have g5 := hk2.frozen 5
        obtain rfl : k = R.length := by omega
        obtain ⟨ra, rc, rfl⟩ := own_sl hrow
        have v0 := hv3.cell 0 rfl
        have v1 := hv3.cell 1 rfl
        have v2 := hv3.cell 2 rfl
        have v3 := hv3.cell 3 rfl
        have v4 := hv3.cell 4 rfl
        have v5 := hv3.cell 5 rfl
        gi_wp2_with fail
        have hgr := grT (grT (grT (grT (grT (qpq wr (w.heap.size + 1) 0 (.int .i64 z0)) (qpq _ _ 1 (.int .i64 z1))) (qpq _ _ 2 (.slice ra R.length rc))) (qpq _ _ 3 (.int .i64 z6))) (qpq _ _ 4 (.int .i64 z7))) (qpq _ _ 5 (.bool b27))
        refine ⟨rfl, _, resV (b := w.heap.size + 1) ((((((hk2.set' 0 _ rfl).set' 1 _ rfl).set' 2 _ rfl).set' 3 _ rfl).set' 4 _ rfl).set' 5 _ rfl) rfl, .slice ra R.length rc, rfl, ?_, ?_⟩
        · refine rep_rows (hrow.kept hgr (.inr (hk2.not_row (by decide) hrow).symm)) fun i hi => ?_
          obtain ⟨u, q1, q2⟩ := hrep i hi
          exact ⟨u, q1, q2.mono (MG.grown hgr (not_gl hk2 (by decide)))⟩
        · exact (((((hbe.setCell (p := ⟨_, _, none⟩) (by simp) _).setCell (p := ⟨_, _, none⟩) (by simp) _).setCell (p := ⟨_, _, none⟩) (by simp) _).setCell (p := ⟨_, _, none⟩) (by simp) _).setCell (p := ⟨_, _, none⟩) (by simp) _).setCell (p := ⟨_, _, none⟩) (by simp) _
end
end Go.Proofs.YtlhagkbhojmjpaaDoor
