/- The iterator view.glyphs, walked by hand; slices.AppendSeq, slices.Collect over it. -/
import Derived.Test.YtlhagkbhojmjpaaDoorKc
import Derived.RangeFuncBox
namespace Go.Proofs.YtlhagkbhojmjpaaDoor
set_option linter.unusedSimpArgs false
set_option linter.unusedVariables false
set_option linter.unusedSectionVars false
set_option linter.unnecessarySimpa false
section
open Go.RowKit Go.Shelf
attribute [local go_sem] Oper.semAt_some

section
variable {P : Program} {ops : Array Oper} {Q : Exit → Act → World → Prop} {S : World → Prop} {R : Act → World → Prop} {i : Nat} {rest x : Plan} {oi : Oper} {a : Act} {w : World}
theorem mx_v {v : Value} (hi : ops[i]? = some oi) (hw : Region.wanted oi (yielded ops a.tmps) = true) (hQ : ∀ c a w, Q (.panic c) (a.put oi.dst v) w → Q (.panic c) a w) (hv : ∀ w, S w → (execOp a.eval oi).run P w = .ok (.value v) w)
    (h : wpMix P ops S Q R rest (a.put oi.dst v) w) : wpMix P ops S Q R (.op true i rest) a w := ⟨oi, v, hi, hQ, .inl ⟨hw, fun w hS => .inl (hv w hS)⟩, h⟩
theorem wpOp_run {K : Act → World → Prop} (hi : ops[i]? = some oi) (hw : Region.wanted oi (yielded ops a.tmps) = true) (h : ∀ K' : Act → World → Prop, (∀ a w, K a w → K' a w) → oi.wp P a w K' Q) : wpOp P ops Q i K a w := by
  unfold Go.wpOp
  simp only [hi, hw, if_true]
  exact .inl (h K fun _ _ h => h)
theorem mx_run (hi : ops[i]? = some oi) (hw : Region.wanted oi (yielded ops a.tmps) = true) (h : ∀ K' : Act → World → Prop, (∀ a w, S w ∧ wpMix P ops S Q R rest a w → K' a w) → oi.wp P a w K' Q) : wpMix P ops S Q R (.op false i rest) a w := wpOp_run hi hw h
theorem mx_alt (hi : ops[i]? = some oi) (hw : Region.wanted oi (yielded ops a.tmps) = true) (h : ∀ K' : Act → World → Prop, (∀ a w, S w ∧ wpMix P ops S Q R x a w → K' a w) → oi.wp P a w K' Q) (k : wpMix P ops S Q R rest a w) : wpMix P ops S Q R (.alt i x rest) a w := ⟨wpOp_run hi hw h, k⟩
end

def ZRow (l : List Zl) (v : Value) (W : World) : Prop := l.length ≤ 1000000 ∧ ((l.length = 0 ∧ ∃ a cap, v = .slice a 0 cap) ∨ ∃ b off cap, v = .slice (some ⟨b, off, none⟩) l.length cap ∧ b < W.heap.size ∧ ∀ i, i < l.length →
  W.cell? ⟨b, off + i * 5, none⟩ = some (.string ⟨(cc l i).s.toArray⟩) ∧ W.cell? ⟨b, off + i * 5 + 1, none⟩ = some (.int .i64 (cc l i).w) ∧ W.cell? ⟨b, off + i * 5 + 2, none⟩ = some (.int .i64 (cc l i).f) ∧ W.cell? ⟨b, off + i * 5 + 3, none⟩ = some (.int .i64 (cc l i).b) ∧ W.cell? ⟨b, off + i * 5 + 4, none⟩ = some (.int .i64 (cc l i).g))
theorem ZRow.val {l : List Zl} {v : Value} {W : World} (h : ZRow l v W) : ∃ a cap, v = .slice a l.length cap := by
  rcases h.2 with ⟨h0, a, cap, e⟩ | ⟨b, off, cap, e, _⟩
  · exact ⟨a, cap, by rw [h0]; exact e⟩
  · exact ⟨_, cap, e⟩
def glyO (c : Zl) : List Gl := if ¬ andI c.g 64 = 0 then [⟨[42], false, 3⟩] else if c.w = 0 then [] else [⟨c.s, decide (c.w = 2), styZ c.g⟩]
def glyL (l : List Zl) : List Gl := l.flatMap glyO
def glV (g : Gl) : Value := .agg #[.string ⟨g.s.toArray⟩, .bool g.w, .int .i64 g.y]
theorem glyO_len (c : Zl) : (glyO c).length ≤ 1 := by
  unfold glyO
  split
  · simp
  · split <;> simp
theorem glyL_len : ∀ l : List Zl, (glyL l).length ≤ l.length
  | [] => Nat.le_refl _
  | c :: l => by
    have := glyL_len l
    have h2 := glyO_len c
    unfold glyL at this ⊢
    rw [List.flatMap_cons, List.length_append, List.length_cons]
    omega
theorem glyL_take {l : List Zl} {i : Nat} (h : i < l.length) : glyL (l.take (i + 1)) = glyL (l.take i) ++ glyO (cc l i) := by
  have e : l.take (i + 1) = l.take i ++ [cc l i] := by
    rw [List.take_add_one, List.getElem?_eq_getElem h]
    unfold cc
    rw [List.getD_eq_getElem?_getD, List.getElem?_eq_getElem h]
    rfl
  unfold glyL
  rw [e, List.flatMap_append, List.flatMap_cons, List.flatMap_nil, List.append_nil]
theorem glyL_split (l : List Zl) (i : Nat) : glyL l = glyL (l.take i) ++ glyL (l.drop i) := by
  unfold glyL
  rw [← List.flatMap_append, List.take_append_drop]
set_option maxRecDepth 100000 in
theorem glyphs_fn (W : World) (a : Option Addr) (n c : Nat) : Calls Tryd.prog 40 #[.slice a n c] W fun e w' =>
    e = .returned (.func (.func 79) #[] #[.pointer (some ⟨W.heap.size, 0, none⟩)]) ∧ w' = W.alloc (.cells #[.slice a n c] 56) := by
  refine (callsIn_wide (n := 8)).1 ?_
  refine callsIn_of_wp Tryd.func40 rfl trivial ?_ rfl
  simp only [Tryd.ntmps40, List.size_toArray, List.length_cons, List.length_nil, Nat.reduceAdd, Nat.reduceSub, Array.replicate_succ, Array.replicate_zero, List.push_toArray, List.append_toArray, List.nil_append, List.cons_append]
  gi_wp2
  go_ret
  exact ⟨rfl, rfl⟩
set_option maxRecDepth 100000 in
set_option maxHeartbeats 4000000 in
theorem glyphs1_in (n : Nat) (hn : 1 ≤ n) (lp k0 : Nat) (l : List Zl) (lv : Value) (w0 W : World) (hl : ZRow l lv w0) (hW : Below w0.heap.size w0 W) (J Jx : List Gl → World → Prop) (hJ : ∀ s A B, J s A → Below A.heap.size A B → J s B)
    (hS : ∀ W1, Below w0.heap.size w0 W1 → ∀ f b g : Int, Calls Tryd.prog 80 #[.agg #[.int .i64 f, .int .i64 b, .int .i64 g]] W1 fun e w' => e = .returned (.int .i64 (styZ g)) ∧ Below W1.heap.size W1 w')
    (hk : W.cell? ⟨k0, 0, none⟩ = some lv)
    (hY : ∀ pre x W1, J pre W1 → pre.length < l.length → YieldAt Fence.wide (n - 1) Tryd.prog lp #[glV x] W1 fun e W' =>
      (e = .returned (.bool true) ∧ J (pre ++ [x]) W' ∧ Below w0.heap.size W1 W') ∨ (e = .returned (.bool false) ∧ Jx (pre ++ [x]) W')) (h0 : J [] W) :
    CallsIn Fence.wide n Tryd.prog 79 #[.func (.yield lp) #[] #[], .pointer (some ⟨k0, 0, none⟩)] W fun e W' => (∃ v, e = .returned v) ∧
      ((∃ ys, ys = glyL l ∧ J ys W') ∨ (∃ pre, (∃ rest, glyL l = pre ++ rest) ∧ Jx pre W')) := by
  obtain ⟨la, lc, rfl⟩ := hl.val
  refine callsIn_of_wp Tryd.func79 rfl trivial ?_ rfl
  simp only [Tryd.ntmps79, List.size_toArray, List.length_cons, List.length_nil, Nat.reduceAdd, Nat.reduceSub, Array.replicate_succ, Array.replicate_zero, List.push_toArray, List.append_toArray, List.nil_append, List.cons_append]
  gi_wp2_with fail
  gi_loopw [8] (fun vi wr => ∃ i : Nat, vi = .int .i64 (i : Nat) ∧ i ≤ l.length ∧ J (glyL (l.take i)) wr ∧ Below w0.heap.size w0 wr) (fun vi _ => l.length - (intOf vi).toNat)
  case atStart => exact ⟨0, rfl, Nat.zero_le _, h0, hW⟩
  case round =>
    obtain ⟨i, rfl, hin, hj, hbe⟩ := hrel
    by_cases hlt : i < l.length
    · obtain ⟨hl9, ⟨hl0, _⟩ | ⟨lb, lo, lcap, le, hlb, hlc⟩⟩ := hl
      · omega
      simp only [Value.slice.injEq, true_and] at le
      obtain ⟨rfl, rfl⟩ := le
      obtain ⟨x0, x1, x2, x3, x4⟩ := hlc i hlt
      have tr : ∀ {o : Nat} {v : Value}, w0.cell? ⟨lb, o, none⟩ = some v → wr.cell? ⟨lb, o, none⟩ = some v := fun h => (World.cell?_of_block (hbe.block lb hlb)).trans h
      have x0 := tr x0; have x1 := tr x1; have x2 := tr x2; have x3 := tr x3; have x4 := tr x4
      obtain ⟨s, cw, f, b, g, hcc⟩ : ∃ s cw f b g, cc l i = ⟨s, cw, f, b, g⟩ := ⟨_, _, _, _, _, rfl⟩
      rw [hcc] at x0 x1 x2 x3 x4
      clear hlc tr
      have hlb' : lb < wr.heap.size := Nat.lt_of_lt_of_le hlb hbe.size
      gi_wp2_with fail
      generalize hW3 : wr.alloc (.cells #[.string ⟨s.toArray⟩, .int .i64 cw, .int .i64 f, .int .i64 b, .int .i64 g] 58) = W3
      have h4 : HasC W3 wr.heap.size #[.string ⟨s.toArray⟩, .int .i64 cw, .int .i64 f, .int .i64 b, .int .i64 g] 58 := by rw [← hW3]; exact HasC.new wr _ _
      have hb3 : Below wr.heap.size wr W3 := by rw [← hW3]; exact (Below.refl _ wr).alloc (Nat.le_refl _) _
      have hs3 : wr.heap.size < W3.heap.size := by rw [← hW3]; simp
      clear hW3
      refine wpIn_mono (Q := OnlyN fun a wz => ∃ (B5 : Nat) (u12 u13 u14 u15 u16 u17 u18 u19 u20 u21 u22 u23 u24 u25 u26 u27 u28 u29 u30 u31 u32 u33 u34 : Value), a = { tmps := #[.func (.yield lp) #[] #[], .pointer (some ⟨k0, 0, none⟩), undef, undef, .pointer (some ⟨wr.heap.size, 0, none⟩), .pointer (some ⟨B5, 0, none⟩), .slice (some ⟨lb, lo, none⟩) l.length lc, .int .i64 (l.length : Nat), .int .i64 (i : Nat), .bool true, .pointer (some ⟨lb, lo + i * 5, none⟩), .agg #[.string ⟨s.toArray⟩, .int .i64 cw, .int .i64 f, .int .i64 b, .int .i64 g], u12, u13, u14, u15, u16, u17, u18, u19, u20, u21, u22, u23, u24, u25, u26, u27, u28, u29, u30, u31, u32, u33, u34], defers := [] } ∧ HasC wz B5 #[.string ⟨s.toArray⟩, .bool (cw == 2), .int .i64 (styZ g)] 107 ∧ HasC wz wr.heap.size #[.string ⟨s.toArray⟩, .int .i64 cw, .int .i64 f, .int .i64 b, .int .i64 g] 58 ∧ Below wr.heap.size wr wz ∧ wr.heap.size < B5) ?_ (only_mono ?_)
      · have hb30 : Below w0.heap.size w0 W3 := hbe.trans (hb3.mono hbe.size)
        refine wpIn_wide.2 (zph 10 (.op true 0 (.op true 1 (.op true 2 (.op true 3 (.op true 4 (.op true 5 (.op true 6 (.alt 7 (.op true 8 (.op false 9 .nil)) (.op false 9 (.op false 7 (.op true 8 .nil))))))))))) rfl (by kernel_rfl) (by decide) (S := fun wz => Below W3.heap.size W3 wz) ((Below.refl _ W3).drew) ?_)
        refine mx_v (v := ?vv0) rfl (by rfl) (fun _ _ _ h => h) ?hh0 ?rr0
        case hh0 =>
          intro w9 hS9
          have d0 := (h4.below hS9 (by omega)).cell 0 rfl
          have d1 := (h4.below hS9 (by omega)).cell 1 rfl
          have d2 := (h4.below hS9 (by omega)).cell 2 rfl
          have d3 := (h4.below hS9 (by omega)).cell 3 rfl
          have d4 := (h4.below hS9 (by omega)).cell 4 rfl
          go_simp
          try with_reducible rfl
        refine mx_v (v := ?vv1) rfl (by rfl) (fun _ _ _ h => h) ?hh1 ?rr1
        case hh1 =>
          intro w9 hS9
          have d0 := (h4.below hS9 (by omega)).cell 0 rfl
          have d1 := (h4.below hS9 (by omega)).cell 1 rfl
          have d2 := (h4.below hS9 (by omega)).cell 2 rfl
          have d3 := (h4.below hS9 (by omega)).cell 3 rfl
          have d4 := (h4.below hS9 (by omega)).cell 4 rfl
          go_simp
          try with_reducible rfl
        refine mx_v (v := ?vv2) rfl (by rfl) (fun _ _ _ h => h) ?hh2 ?rr2
        case hh2 =>
          intro w9 hS9
          have d0 := (h4.below hS9 (by omega)).cell 0 rfl
          have d1 := (h4.below hS9 (by omega)).cell 1 rfl
          have d2 := (h4.below hS9 (by omega)).cell 2 rfl
          have d3 := (h4.below hS9 (by omega)).cell 3 rfl
          have d4 := (h4.below hS9 (by omega)).cell 4 rfl
          go_simp
          try with_reducible rfl
        refine mx_v (v := ?vv3) rfl (by rfl) (fun _ _ _ h => h) ?hh3 ?rr3
        case hh3 =>
          intro w9 hS9
          have d0 := (h4.below hS9 (by omega)).cell 0 rfl
          have d1 := (h4.below hS9 (by omega)).cell 1 rfl
          have d2 := (h4.below hS9 (by omega)).cell 2 rfl
          have d3 := (h4.below hS9 (by omega)).cell 3 rfl
          have d4 := (h4.below hS9 (by omega)).cell 4 rfl
          go_simp
          try with_reducible rfl
        refine mx_v (v := ?vv4) rfl (by rfl) (fun _ _ _ h => h) ?hh4 ?rr4
        case hh4 =>
          intro w9 hS9
          have d0 := (h4.below hS9 (by omega)).cell 0 rfl
          have d1 := (h4.below hS9 (by omega)).cell 1 rfl
          have d2 := (h4.below hS9 (by omega)).cell 2 rfl
          have d3 := (h4.below hS9 (by omega)).cell 3 rfl
          have d4 := (h4.below hS9 (by omega)).cell 4 rfl
          go_simp
          try with_reducible rfl
        refine mx_v (v := ?vv5) rfl (by rfl) (fun _ _ _ h => h) ?hh5 ?rr5
        case hh5 =>
          intro w9 hS9
          have d0 := (h4.below hS9 (by omega)).cell 0 rfl
          have d1 := (h4.below hS9 (by omega)).cell 1 rfl
          have d2 := (h4.below hS9 (by omega)).cell 2 rfl
          have d3 := (h4.below hS9 (by omega)).cell 3 rfl
          have d4 := (h4.below hS9 (by omega)).cell 4 rfl
          go_simp
          try with_reducible rfl
        refine mx_v (v := ?vv6) rfl (by rfl) (fun _ _ _ h => h) ?hh6 ?rr6
        case hh6 =>
          intro w9 hS9
          have d0 := (h4.below hS9 (by omega)).cell 0 rfl
          have d1 := (h4.below hS9 (by omega)).cell 1 rfl
          have d2 := (h4.below hS9 (by omega)).cell 2 rfl
          have d3 := (h4.below hS9 (by omega)).cell 3 rfl
          have d4 := (h4.below hS9 (by omega)).cell 4 rfl
          go_simp
          try with_reducible rfl
        refine mx_alt rfl (by rfl) (fun K hK => ?_) ?alt2
        · go_wp2_with (go_at_call 80; refine (hS _ hb30.drew f b g).mono ?_; rintro e W4 ⟨rfl, hb4⟩)
          have hb34 : Below W3.heap.size W3 W4 := ⟨hb4.os, hb4.tape, hb4.output, hb4.size, hb4.block⟩
          refine ⟨hb34, ?_⟩
          refine mx_v (v := ?vx8) rfl (by rfl) (fun _ _ _ h => h) ?hx8 ?rx8
          case hx8 =>
            intro w9 hS9
            go_simp
            try with_reducible rfl
          refine mx_run rfl (by rfl) (fun K hK => ?_)
          go_wp2_with fail
          refine ⟨hb34.alloc hb34.size _, ?_⟩
          unfold wpMix
          simp only [List.drop_succ_cons, List.drop_zero]
          go_wp2_with fail
          have hlt4 : wr.heap.size < W4.heap.size := Nat.lt_of_lt_of_le hs3 hb34.size
          refine ⟨W4.heap.size, _, _, _, _, _, _, _, _, _, _, _, _, _, _, _, _, _, _, _, _, _, _, _, rfl, HasC.new W4 _ _, (h4.below hb34 hs3).alloc _, ?_, hlt4⟩
          have hbr4 : Below wr.heap.size wr W4 := hb3.trans (hb34.mono (Nat.le_of_lt hs3))
          exact hbr4.alloc hbr4.size _
        case alt2 =>
          refine mx_run rfl (by rfl) (fun K hK => ?_)
          go_wp2_with fail
          refine ⟨((Below.refl _ W3).drew).alloc (Nat.le_refl _) _, ?_⟩
          refine mx_run rfl (by rfl) (fun K hK => ?_)
          go_wp2_with (go_at_call 80; refine (hS _ (hb30.drew.alloc (by have := hb30.size; simp; omega) _) f b g).mono ?_; rintro e W4 ⟨rfl, hb4⟩)
          have hz : HasC W4 W3.heap.size #[.string ⟨#[]⟩, .bool false, .int .i64 0] 107 := (HasC.new W3.drew #[.string ⟨#[]⟩, .bool false, .int .i64 0] 107).below hb4 (by simp)
          have hb34 : Below W3.heap.size W3 W4 := (((Below.refl _ W3).drew).alloc (Nat.le_refl _) _).trans (hb4.mono (by simp))
          refine ⟨hb34, ?_⟩
          refine mx_v (v := ?vy8) rfl (by rfl) (fun _ _ _ h => h) ?hy8 ?ry8
          case hy8 =>
            intro w9 hS9
            go_simp
            try with_reducible rfl
          unfold wpMix
          try simp only [List.drop_succ_cons, List.drop_zero]
          have f0 := hz.frozen 0
          have f1 := hz.frozen 1
          have f2 := hz.frozen 2
          have e0 := hz.cell 0 rfl
          have e1 := hz.cell 1 rfl
          have e2 := hz.cell 2 rfl
          have hlt4 : W3.heap.size < W4.heap.size := hz.lt
          go_wp2_with fail
          refine ⟨W3.heap.size, ⟨_, _, _, _, _, _, _, _, _, _, _, _, _, _, _, _, _, _, _, _, _, _, _, rfl⟩, ((hz.set' 0 _ rfl).set' 1 _ rfl).set' 2 _ rfl, (((h4.below hb34 hs3).other (by omega) _ _).other (by omega) _ _).other (by omega) _ _, ?_, hs3⟩
          have hbr4 : Below wr.heap.size wr W4 := hb3.trans (hb34.mono (Nat.le_of_lt hs3))
          exact ((hbr4.setCell (p := ⟨_, _, none⟩) (by simp; omega) _).setCell (p := ⟨_, _, none⟩) (by simp; omega) _).setCell (p := ⟨_, _, none⟩) (by simp; omega) _
      · clear h4 hb3 hs3
        rintro a wz ⟨B5, u12, u13, u14, u15, u16, u17, u18, u19, u20, u21, u22, u23, u24, u25, u26, u27, u28, u29, u30, u31, u32, u33, u34, rfl, h5, h4, hbz, hB5⟩
        have c0 := h4.cell 0 rfl
        have c1 := h4.cell 1 rfl
        have c2 := h4.cell 2 rfl
        have c3 := h4.cell 3 rfl
        have c4 := h4.cell 4 rfl
        have d0 := h5.cell 0 rfl
        have d1 := h5.cell 1 rfl
        have d2 := h5.cell 2 rfl
        have f0 := h5.frozen 0
        have f1 := h5.frozen 1
        have f2 := h5.frozen 2
        have hlz := h4.lt
        have hlz5 := h5.lt
        have hlen : (glyL (l.take i)).length < l.length := by
          have := glyL_len (l.take i)
          rw [List.length_take] at this
          omega
        have hbits : bits BinOp.and IntKind.i64 g 64 = andI g 64 := rfl
        by_cases h64 : andI g 64 = 0
        · have hb1 : (bits BinOp.and IntKind.i64 g 64 != 0) = false := by rw [hbits, h64]; rfl
          by_cases hw0 : cw = 0
          · subst hw0
            gi_wp2_with fail
            go_roundw
            case rel =>
              refine ⟨i + 1, by go_num, by omega, ?_, hbe.trans (hbz.mono hbe.size)⟩
              have hgo : glyO ⟨s, 0, f, b, g⟩ = [] := by unfold glyO; rw [if_neg (fun k => k h64), if_pos rfl]
              rw [glyL_take hlt, hcc, hgo, List.append_nil]
              exact hJ _ _ _ hj hbz
            case measure => simp [intOf]; omega
          have hb2 : (cw == 0) = false := by simpa using hw0
          have hgo : glyO ⟨s, cw, f, b, g⟩ = [⟨s, decide (cw = 2), styZ g⟩] := by unfold glyO; rw [if_neg (fun k => k h64), if_neg hw0]
          have hdec : (decide (cw = 2)) = (cw == 2) := rfl
          have hbz2 : Below wr.heap.size wr (wz) := hbz
          obtain ⟨fn, tmps, assign, body, hy, hR⟩ := hY (glyL (l.take i)) ⟨s, decide (cw = 2), styZ g⟩ (wz) (hJ _ _ _ hj hbz2) hlen
          dsimp only [glV] at hy
          rw [hdec] at hy
          gi_wp2_with fail
          refine hR.mono ?_
          rintro e W5 (⟨rfl, hJ5, hk5⟩ | ⟨rfl, hJx5⟩)
          · gi_wp2_with fail
            go_roundw
            case rel =>
              refine ⟨i + 1, by go_num, by omega, ?_, (hbe.trans (hbz2.mono hbe.size)).trans hk5⟩
              rw [glyL_take hlt, hcc, hgo]
              exact hJ5
            case measure => simp [intOf]; omega
          · gi_wp2_with fail
            refine bodyPost_ret (results_none rfl _ _ _) rfl ?_
            refine ⟨⟨_, rfl⟩, .inr ⟨_, ⟨glyL (l.drop (i + 1)), ?_⟩, hJx5⟩⟩
            rw [← hgo, ← hcc, ← glyL_take hlt]
            exact glyL_split l (i + 1)
        · have hb1 : (bits BinOp.and IntKind.i64 g 64 != 0) = true := by rw [hbits]; simpa using h64
          have hgo : glyO ⟨s, cw, f, b, g⟩ = [⟨[42], false, 3⟩] := by unfold glyO; rw [if_pos h64]
          have hbz2 : Below wr.heap.size wr (((wz.setCell ⟨B5, 0, none⟩ (.string ⟨#[42]⟩)).setCell ⟨B5, 1, none⟩ (.bool false)).setCell ⟨B5, 2, none⟩ (.int .i64 3)) := ((hbz.setCell (p := ⟨_, _, none⟩) (by simp; omega) _).setCell (p := ⟨_, _, none⟩) (by simp; omega) _).setCell (p := ⟨_, _, none⟩) (by simp; omega) _
          obtain ⟨fn, tmps, assign, body, hy, hR⟩ := hY (glyL (l.take i)) ⟨[42], false, 3⟩ (((wz.setCell ⟨B5, 0, none⟩ (.string ⟨#[42]⟩)).setCell ⟨B5, 1, none⟩ (.bool false)).setCell ⟨B5, 2, none⟩ (.int .i64 3)) (hJ _ _ _ hj hbz2) hlen
          dsimp only [glV] at hy
          have h5' : HasC (((wz.setCell ⟨B5, 0, none⟩ (.string ⟨#[42]⟩)).setCell ⟨B5, 1, none⟩ (.bool false)).setCell ⟨B5, 2, none⟩ (.int .i64 3)) B5 #[.string ⟨#[42]⟩, .bool false, .int .i64 3] 107 := ((h5.set' 0 _ rfl).set' 1 _ rfl).set' 2 _ rfl
          have e0 := h5'.cell 0 rfl
          have e1 := h5'.cell 1 rfl
          have e2 := h5'.cell 2 rfl
          gi_wp2_with fail
          refine hR.mono ?_
          rintro e W5 (⟨rfl, hJ5, hk5⟩ | ⟨rfl, hJx5⟩)
          · gi_wp2_with fail
            go_roundw
            case rel =>
              refine ⟨i + 1, by go_num, by omega, ?_, (hbe.trans (hbz2.mono hbe.size)).trans hk5⟩
              rw [glyL_take hlt, hcc, hgo]
              exact hJ5
            case measure => simp [intOf]; omega
          · gi_wp2_with fail
            refine bodyPost_ret (results_none rfl _ _ _) rfl ?_
            refine ⟨⟨_, rfl⟩, .inr ⟨_, ⟨glyL (l.drop (i + 1)), ?_⟩, hJx5⟩⟩
            rw [← hgo, ← hcc, ← glyL_take hlt]
            exact glyL_split l (i + 1)
    · obtain rfl : i = l.length := by omega
      rw [List.take_length] at hj
      gi_wp2_with fail
      go_end0
      exact ⟨⟨_, rfl⟩, .inl ⟨_, rfl, hj⟩⟩
end
end Go.Proofs.YtlhagkbhojmjpaaDoor
