/- Package scriptvm: the code of a glyph, the operations. -/
import Derived.Test.YtlhagkbhojmjpaaDoorSvm
namespace Go.Proofs.YtlhagkbhojmjpaaDoor
set_option linter.unusedSimpArgs false
set_option linter.unusedVariables false
section
open Go.RowKit Go.Shelf

theorem ResRep.rowI {B : Nat} {w : World} {G : Nat → Prop} {k : IntKind} {ety : TypeId} {D : List Int} {v : Value} (h : ResRep B w G [(false, [(.slice false [.int k], some ety)])] (ints D) v) : w.ownsRow B ety 1 v D.length (D.map fun z => .int k z) := by
  obtain ⟨vs, hv, hl, hs, _, hc, _⟩ := h
  match vs, hl with
  | [v'], _ =>
    have h2 : ∃ xs, w.ownsRow B ety [CT.int k].length v' (ints D).asList.length xs ∧ RowT (fresh w G B) false [.int k] (ints D).asList xs ∧ ∀ g, gOf v' = some g → G g := hc 0 _ _ rfl rfl
    obtain ⟨xs, h3, h4, _⟩ := h2
    have e : (ints D).asList.length = D.length := by rw [ints, TV.asList, List.length_map]
    have e2 : xs = D.map fun z => Value.int k z := by
      rw [RowT.ints h4, ints, TV.asList, List.map_map]; rfl
    rw [e, e2] at h3
    subst hv
    exact h3
theorem ResRep.rowStr {B : Nat} {w : World} {G : Nat → Prop} {k : IntKind} {ety : TypeId} {D : List Int} {s : List UInt8} {v : Value} (h : ResRep B w G [(false, [(.slice false [.int k], some ety)]), (false, [(.str, none)])] (.agg [ints D, .str s]) v) :
    ∃ v1, v = .tuple #[v1, .string ⟨s.toArray⟩] ∧ w.ownsRow B ety 1 v1 D.length (D.map fun z => .int k z) := by
  obtain ⟨vs, hv, hl, hs, _, hc, _⟩ := h
  match vs, hl with
  | [v1, v2], _ =>
    have h2 : ∃ xs, w.ownsRow B ety [CT.int k].length v1 (ints D).asList.length xs ∧ RowT (fresh w G B) false [.int k] (ints D).asList xs ∧ ∀ g, gOf v1 = some g → G g := hc 0 _ _ rfl rfl
    have h5 : RepT (fresh w G B) .str (.str s) v2 := hc 1 _ _ rfl rfl
    obtain ⟨xs, h3, h4, _⟩ := h2
    have e : (ints D).asList.length = D.length := by rw [ints, TV.asList, List.length_map]
    have e2 : xs = D.map fun z => Value.int k z := by
      rw [RowT.ints h4, ints, TV.asList, List.map_map]; rfl
    rw [e, e2] at h3
    cases h5
    exact ⟨v1, hv, h3⟩
theorem qmg {P : Program} {w : World} (base : Nat) (t ty e : TypeId) (i : TypeInfo) (z : Value) (size bytes : Nat) (ht : P.underlying t = some (.slice e)) (hi : P.info? e = some i) (hz : i.zero = some z)
    (hsize : i.size = size) (hby : i.bytes = bytes) (hzs : z.cells.size = size) (hsz : 0 < size) (v : Value) (n : Nat) (xs : List Value) (hown : w.ownsRow base e size v n xs)
    (u : Value) (m : Nat) (ys : List Value) (hu : w.ownsRow base e size u m ys) (h1 : ∀ u ∈ ys, u.oneCell' = true) (h63 : n + m ≤ maxLen) (hbytes : (n + m) * bytes ≤ 140737488355328) (hbase : base ≤ w.heap.size) :
    ∃ v' w', (Builtin.append_ #[t, t] ty #[v, u]).run P w = .ok v' w' ∧ w'.ownsRow base e size v' (n + m) (xs ++ ys) ∧ w.grownBy w' v.ownBlock := by
  rcases hu.2 with ⟨rfl, rfl⟩ | ⟨g, cap, cur, rfl, hg, hcur, hc1, hc2, hc3, hc4⟩
  · have hy : ys = [] := List.eq_nil_of_length_eq_zero (by have := hu.1; omega)
    subst hy
    rw [List.append_nil, Nat.add_zero]
    exact ⟨v, w, run_append_owned_none (w := w) base t ty e i size ht hi v n xs hown, hown, ⟨rfl, rfl, rfl, Nat.le_refl _, fun _ _ _ => rfl⟩⟩
  · obtain ⟨v', w', r1, r2, r3, _⟩ := run_append_own (P := P) w base t ty e i z size bytes ht hi hz hsize hby hzs hsz v n xs hown ⟨g, 0, none⟩ m cap ys hu.1 (fun j x hj => by
      have hlt : j < ys.length := (List.getElem?_eq_some_iff.1 hj).1
      rw [← hc4] at hj
      rw [List.getElem?_take] at hj
      split at hj
      · have hj' : cur[j]? = some x := by simpa using hj
        have ha : (⟨g, 0, none⟩ : Addr).add j = ⟨g, j, none⟩ := by
          unfold Addr.add
          split
          · rename_i h0; subst h0; rfl
          · simp
        rw [ha]
        simp [World.cell?, hcur, hj']
      · cases hj) h1 h63 hbytes hbase
    exact ⟨v', w', r1, r2, r3⟩
theorem wpListIn_append_rows {F : Fence} {n0 : Nat} {P : Program} {w : World} {ops : Array Oper} {rest : List Oper} {o : Oper} {a : Act} {Q : Exit → Act → World → Prop} (hg : o.guard = none) (s x : Operand) (t : TypeId) (hop : o.op = Op.call { callee := Callee.builtin Builtin.append, args := #[s, x], argTypes := #[t, t] })
    (base : Nat) (e : TypeId) (i : TypeInfo) (z : Value) (size bytes : Nat) (ht : P.underlying t = some (.slice e)) (hi : P.info? e = some i) (hz : i.zero = some z)
    (hsize : i.size = size) (hby : i.bytes = bytes) (hzs : z.cells.size = size) (hsz : 0 < size) (v : Value) (n : Nat) (xs : List Value) (hs : a.eval s = v) (hown : w.ownsRow base e size v n xs)
    (u : Value) (m : Nat) (ys : List Value) (hx : a.eval x = u) (hu : w.ownsRow base e size u m ys) (h1 : ∀ u ∈ ys, u.oneCell' = true) (h63 : n + m ≤ maxLen) (hbytes : (n + m) * bytes ≤ 140737488355328) (hbase : base ≤ w.heap.size)
    (hK : ∀ v' w', w'.ownsRow base e size v' (n + m) (xs ++ ys) → w.grownBy w' v.ownBlock → wpListIn F n0 P ops Q rest (a.put o.dst v') w') : wpListIn F n0 P ops Q (o :: rest) a w := by
  refine wpListIn_plain hg fun K hK' => ?_
  obtain ⟨v', w', hrun, r1, r2⟩ := qmg (P := P) (w := w) base t o.type e i z size bytes ht hi hz hsize hby hzs hsz v n xs hown u m ys hu h1 h63 hbytes hbase
  unfold Oper.wpIn
  refine ⟨?_, ?_⟩
  · simp [Oper.about, hop, resolve, Target.leads, Sem.run_pure]
  · rw [Oper.semAt_plain F _ _ (by rw [hop]; intro c hc'; cases hc')]
    simp [execOp, hop, resolve, invoke, builtin, hs, hx, hrun, Result.andThen]
    exact hK' _ _ (hK v' w' r1 r2)

def codeZ (l : List Gl) (i : Int) : Int := if 0 ≤ i ∧ i < l.length then (if (gg l i.toNat).y = 3 then 42 else ((dec (bs (gg l i.toNat).s)).1 ++ Go.Proofs.YtlhagkbhojmjpaaDoor.fin (dec (bs (gg l i.toNat).s)).2).headD 0) else 0
theorem below_mem {w0 W : World} (h : Below w0.heap.size w0 W) : Mem.le (full w0) (full W) := fun g o hg => (h.block g (Array.getElem?_eq_some_iff.1 hg).1).trans hg
theorem glob_le {Γ : CEnv} {gt : GT} {w W : World} (h : GlobOk Γ gt w) (hl : Mem.le (full w) (full W)) : GlobOk Γ gt W := fun g ag cs hm => ⟨(h g ag cs hm).1.mono hl, (h g ag cs hm).2⟩
theorem decode_calls {w0 W : World} (hG : GlobOk (mkEnv globT []) gtab w0) (hB : Below w0.heap.size w0 W) (p s : List UInt8) (hl : p.length + s.length ≤ 1000000) :
    Calls Tryd.prog 84 #[.string ⟨p.toArray⟩, .string ⟨s.toArray⟩] W fun e w' => ∃ v1, e = .returned (.tuple #[v1, .string ⟨(unbs (dec (bs (p ++ s))).2).toArray⟩]) ∧ Below W.heap.size W w' ∧ w'.ownsRow W.heap.size 21 1 v1 (dec (bs (p ++ s))).1.length ((dec (bs (p ++ s))).1.map fun z => .int .i32 z) := by
  refine ((zo6 0).calls W [.str p, .str s] _ (glob_le hG (below_mem hB)) ⟨rfl, rfl, fun i x t v h1 h2 h3 => ?_⟩ ⟨p, s, rfl, by omega⟩).mono ?_
  · match i, h1, h2, h3 with
    | 0, h1, h2, h3 => cases h1; cases h2; cases h3; exact ⟨_, rfl, RepT.str (.str p)⟩
    | 1, h1, h2, h3 => cases h1; cases h2; cases h3; exact ⟨_, rfl, RepT.str (.str s)⟩
  · rintro e w' ⟨r, v, G', rfl, hp, hb, _, hr⟩
    obtain rfl := hp p s rfl
    obtain ⟨v1, rfl, h1⟩ := hr.rowStr
    exact ⟨v1, rfl, hb, h1⟩
theorem finish_calls {w0 W : World} (hG : GlobOk (mkEnv globT []) gtab w0) (hB : Below w0.heap.size w0 W) (p : List UInt8) (hl : p.length ≤ 1000000) :
    Calls Tryd.prog 45 #[.string ⟨p.toArray⟩] W fun e w' => ∃ v1, e = .returned v1 ∧ Below W.heap.size W w' ∧ w'.ownsRow W.heap.size 21 1 v1 (Go.Proofs.YtlhagkbhojmjpaaDoor.fin (bs p)).length ((Go.Proofs.YtlhagkbhojmjpaaDoor.fin (bs p)).map fun z => .int .i32 z) := by
  refine ((zm5 0).calls W [.str p] _ (glob_le hG (below_mem hB)) ⟨rfl, rfl, fun i x t v h1 h2 h3 => ?_⟩ ⟨p, rfl, by omega⟩).mono ?_
  · match i, h1, h2, h3 with
    | 0, h1, h2, h3 => cases h1; cases h2; cases h3; exact ⟨_, rfl, RepT.str (.str p)⟩
  · rintro e w' ⟨r, v, G', rfl, hp, hb, _, hr⟩
    obtain rfl := hp p rfl
    exact ⟨v, rfl, hb, hr.rowI⟩
theorem grown_below {A B : World} (h : Below A.heap.size A B) (r : Option Nat) : A.grownBy B r := ⟨h.os, h.tape, h.output, h.size, fun k hk _ => h.block k hk⟩
theorem below_grown {A B : World} (h : A.grownBy B none) : Below A.heap.size A B := ⟨h.os, h.tape, h.output, h.size, fun k hk => h.block k hk (by simp)⟩
theorem below_grown_own {A B C : World} {v : Value} {e : TypeId} {size n : Nat} {xs : List Value} (h : Below A.heap.size A B) (hv : B.ownsRow A.heap.size e size v n xs) (k : B.grownBy C v.ownBlock) : Below A.heap.size A C := by
  refine ⟨k.os.trans h.os, k.tape.trans h.tape, k.output.trans h.output, Nat.le_trans h.size k.size, fun i hi => (k.block i (Nat.lt_of_lt_of_le hi h.size) ?_).trans (h.block i hi)⟩
  rcases hv.2 with ⟨rfl, _⟩ | ⟨g, cap, cur, rfl, hg, _⟩
  · simp [Value.ownBlock]
  · simp [Value.ownBlock]; omega
theorem run_zero32 : (Tryd.prog.info? 21).map (fun i => (i.zero, i.size, i.bytes)) = some (some (.int .i32 0), 1, 4) := by kernel_rfl
theorem own_slice {w : World} {base : Nat} {e : TypeId} {size n : Nat} {v : Value} {xs : List Value} (h : w.ownsRow base e size v n xs) : ∃ a cap, v = .slice a n cap := by
  rcases h.2 with ⟨rfl, rfl⟩ | ⟨g, cap, _, rfl, _⟩
  · exact ⟨none, 0, rfl⟩
  · exact ⟨_, cap, rfl⟩
theorem own_first {w : World} {base : Nat} {e : TypeId} {n : Nat} {v x : Value} {ys xs : List Value} (h : w.ownsRow base e 1 v n ys) (hy : ys = x :: xs) : ∃ g cap, v = .slice (some ⟨g, 0, none⟩) n cap ∧ w.cell? ⟨g, 0, none⟩ = some x := by
  subst hy
  rcases h.2 with ⟨_, rfl⟩ | ⟨g, cap, cur, rfl, _, hg, _, _, _, ht⟩
  · have := h.1; simp at this
  · refine ⟨g, cap, rfl, ?_⟩
    have h0 := congrArg (fun l => l[0]?) ht
    have hn : 0 < n := by have := h.1; simp at this; omega
    rw [List.getElem?_take, if_pos (by omega)] at h0
    simp [World.cell?, hg]
    simpa using h0
theorem own_base {w : World} {b b' : Nat} {e : TypeId} {size n : Nat} {v : Value} {xs : List Value} (h : w.ownsRow b e size v n xs) (hle : b' ≤ b) : w.ownsRow b' e size v n xs := by
  refine ⟨h.1, ?_⟩
  rcases h.2 with h0 | ⟨g, cap, cur, h1, h2, h3⟩
  · exact .inl h0
  · exact .inr ⟨g, cap, cur, h1, Nat.le_trans hle h2, h3⟩
set_option maxRecDepth 100000 in
set_option maxHeartbeats 4000000 in
theorem code_in {w0 : World} (hG : GlobOk (mkEnv globT []) gtab w0) (W : World) (hB : Below w0.heap.size w0 W) (B : Nat) (m : Mch) (l : List Gl) (i : Int) (h : IsM W B m) (hg : GRow l m.gl W) (hl : ∀ g ∈ l, g.s.length ≤ 100000) :
    Calls Tryd.prog 62 #[.pointer (some ⟨B, 0, none⟩), .int .i64 i] W fun e W' => e = .returned (.int .i64 (codeZ l i)) ∧ Below W.heap.size W W' := by
  refine (callsIn_wide (n := 8)).1 ?_
  refine callsIn_of_wp Tryd.func62 rfl trivial ?_ rfl
  simp only [Tryd.ntmps62, List.size_toArray, List.length_cons, List.length_nil, Nat.reduceAdd, Nat.reduceSub, Array.replicate_succ, Array.replicate_zero, List.push_toArray, List.append_toArray, List.nil_append, List.cons_append]
  have hgl := glyph_in W B m l i h hg
  have hlt := h.lt
  by_cases hi : 0 ≤ i ∧ i < l.length
  · rw [decide_eq_true hi] at hgl
    have ez : glyZ l i = gg l i.toNat := if_pos hi
    have hs : (gg l i.toNat).s.length ≤ 100000 := hl _ (by
      unfold gg
      rw [List.getD_eq_getElem?_getD, List.getElem?_eq_getElem (by omega)]
      exact List.getElem_mem _)
    rw [ez] at hgl
    unfold codeZ
    rw [if_pos hi]
    generalize gg l i.toNat = gl at *
    clear hg hl
    by_cases hy : gl.y = 3
    · rw [if_pos hy]
      gi_wp2_with (refine ⟨trivial, ?_⟩; gi_at_call 63; refine (callsIn_wide.2 hgl).mono ?_; rintro e w' ⟨rfl, hb1⟩)
      go_ret
      exact ⟨rfl, below_grown (grown_trans hb1 (World.grownBy_alloc _ _ none))⟩
    · rw [if_neg hy]
      obtain ⟨cv, hcv⟩ : ∃ cv, ((dec (bs gl.s)).1 ++ Go.Proofs.YtlhagkbhojmjpaaDoor.fin (dec (bs gl.s)).2).headD 0 = cv := ⟨_, rfl⟩
      rw [hcv]
      have hdl := zfq (bs gl.s)
      rw [zak] at hdl
      have hbr := zvw gl.s
      have hrl : (unbs (dec (bs gl.s)).2).length ≤ 100000 := by rw [zi3]; omega
      have hfl : (Go.Proofs.YtlhagkbhojmjpaaDoor.fin (bs (unbs (dec (bs gl.s)).2))).length ≤ 100001 := by
        have h1 := zfq (dec (bs gl.s)).2
        rw [hbr]
        unfold Go.Proofs.YtlhagkbhojmjpaaDoor.fin
        split <;> simp only [List.length_append, List.length_cons, List.length_nil] <;> omega
      have hdl1 : (dec (bs gl.s)).1.length ≤ 100000 := by omega
      rw [← hbr] at hcv
      have hdc := fun W' h => decode_calls (W := W') hG h [] gl.s (by simp; omega)
      rw [List.nil_append] at hdc
      clear hbr hdl
      have hrange : ∀ x ∈ (dec (bs gl.s)).1 ++ Go.Proofs.YtlhagkbhojmjpaaDoor.fin (bs (unbs (dec (bs gl.s)).2)), -2147483648 ≤ x ∧ x ≤ 2147483647 := by
        intro x hx
        rcases List.mem_append.1 hx with h1 | h1
        · have := zjj gl.s x h1
          unfold isCh at this
          omega
        · have := zwl _ x h1
          unfold isCh at this
          omega
      generalize unbs (dec (bs gl.s)).2 = p at *
      generalize (dec (bs gl.s)).1 = D at *
      generalize hF : Go.Proofs.YtlhagkbhojmjpaaDoor.fin (bs p) = F at *
      obtain ⟨i0, hi0, hz0, hz1, hz2⟩ := info_parts run_zero32
      gi_wp2_with (refine ⟨trivial, ?_⟩; gi_at_call 63; refine (callsIn_wide.2 hgl).mono ?_; rintro e w' ⟨rfl, hb1⟩)
      refine ⟨trivial, ?_⟩
      generalize hW1 : w'.alloc (.cells #[.string ⟨gl.s.toArray⟩, .bool gl.w, .int .i64 gl.y] 107) = W1
      have hb2 : Below W.heap.size W W1 := by rw [← hW1]; exact below_grown (grown_trans hb1 (World.grownBy_alloc _ _ none))
      refine (callsIn_wide.2 (hdc _ (hB.trans (hb2.mono hB.size)))).mono ?_
      rintro e W2 ⟨v1, rfl, hb3, ho1⟩
      have hb4 := hb2.trans (hb3.mono hb2.size)
      have ho1 := own_base ho1 hb2.size
      have hb5 := hb4.size
      have hfc := fun W' h => finish_calls (W := W') hG h p (by omega)
      rw [hF] at hfc
      by_cases hne : D ++ F = []
      · have hl0 : D.length + F.length = 0 := by rw [← List.length_append, hne]; rfl
        gi_wp2_with (first
          | (refine ⟨trivial, ?_⟩; gi_at_call 45; refine (callsIn_wide.2 (hfc _ (hB.trans (hb4.mono hB.size)))).mono ?_; rintro e W3 ⟨v2, rfl, hb6, ho2⟩)
          | (gi_at_builtin; refine wpListIn_append_rows rfl _ _ 102 rfl W.heap.size 21 i0 _ 1 4 Tryd.underlying102 hi0 hz0 hz1 hz2 rfl (by decide) _ _ _ rfl (ho1.kept (grown_below hb6 none) (by cases hv : v1.ownBlock <;> simp)) _ _ _ rfl (own_base ho2 hb5) (by simp [Value.oneCell']) (by simp [maxLen]; omega) (by omega) (Nat.le_trans hb5 hb6.size) ?_; intro v3 W4 ho3 hgr; obtain ⟨a9, c9, rfl⟩ := own_slice ho3; rw [hl0]))
        go_ret
        exact ⟨by rw [← hcv, hne]; rfl, below_grown_own (hb4.trans (hb6.mono hb5)) (ho1.kept (grown_below hb6 none) (by cases hv : v1.ownBlock <;> simp)) hgr⟩
      · obtain ⟨x, xs, hx⟩ : ∃ x xs, D ++ F = x :: xs := by
          cases hq : D ++ F with
          | nil => exact absurd hq hne
          | cons x xs => exact ⟨x, xs, rfl⟩
        have hl0 : ¬ D.length + F.length = 0 := by rw [← List.length_append, hx]; simp
        have hxr : -2147483648 ≤ x ∧ x ≤ 2147483647 := hrange x (by rw [hx]; exact List.mem_cons_self)
        have hcx : cv = x := by rw [← hcv, hx]; rfl
        gi_wp2_with (first
          | (refine ⟨trivial, ?_⟩; gi_at_call 45; refine (callsIn_wide.2 (hfc _ (hB.trans (hb4.mono hB.size)))).mono ?_; rintro e W3 ⟨v2, rfl, hb6, ho2⟩)
          | (gi_at_builtin; refine wpListIn_append_rows rfl _ _ 102 rfl W.heap.size 21 i0 _ 1 4 Tryd.underlying102 hi0 hz0 hz1 hz2 rfl (by decide) _ _ _ rfl (ho1.kept (grown_below hb6 none) (by cases hv : v1.ownBlock <;> simp)) _ _ _ rfl (own_base ho2 hb5) (by simp [Value.oneCell']) (by simp [maxLen]; omega) (by omega) (Nat.le_trans hb5 hb6.size) ?_; intro v3 W4 ho3 hgr; obtain ⟨g9, c9, rfl, hc9⟩ := own_first ho3 (x := .int .i32 x) (xs := xs.map fun z => .int .i32 z) (by rw [← List.map_append, hx]; rfl)))
        go_ret
        exact ⟨by rw [hcx]; rfl, below_grown_own (hb4.trans (hb6.mono hb5)) (ho1.kept (grown_below hb6 none) (by cases hv : v1.ownBlock <;> simp)) hgr⟩
  · rw [decide_eq_false hi] at hgl
    have ez : glyZ l i = ⟨[], false, 0⟩ := if_neg hi
    rw [ez] at hgl
    have ec : codeZ l i = 0 := if_neg hi
    rw [ec]
    gi_wp2_with (refine ⟨trivial, ?_⟩; gi_at_call 63; refine (callsIn_wide.2 hgl).mono ?_; rintro e w' ⟨rfl, hb1⟩)
    go_ret
    exact ⟨rfl, below_grown (grown_trans hb1 (World.grownBy_alloc _ _ none))⟩
end
end Go.Proofs.YtlhagkbhojmjpaaDoor
