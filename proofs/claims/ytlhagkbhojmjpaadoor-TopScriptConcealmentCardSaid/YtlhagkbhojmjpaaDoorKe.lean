/- slices.AppendSeq and slices.Collect over view.glyphs. -/
import Derived.Test.YtlhagkbhojmjpaaDoorKd
namespace Go.Proofs.YtlhagkbhojmjpaaDoor
set_option linter.unusedSimpArgs false
set_option linter.unusedVariables false
set_option linter.unusedSectionVars false
set_option linter.unnecessarySimpa false
section
open Go.RowKit Go.Shelf
attribute [local go_sem] Oper.semAt_some
structure AI (w : World) (pre : List Gl) (W : World) : Prop where
  b : ∃ v, Boxed W w.heap.size 23 v ∧ W.ownsRow w.heap.size 107 3 v pre.length (glsC pre)
  be : Below w.heap.size w W
theorem AI.own (w : World) {C : Nat} (hC : w.heap.size ≤ C) : OwnFrom C (AI w) := fun s X Y row h hg hr => by
  obtain ⟨⟨v, hv, ho⟩, hb⟩ := h
  obtain ⟨v', h1, h2, _⟩ := holdsRow_own (β := List Gl) w.heap.size w.heap.size 23 107 3 List.length glsC (fun _ _ => True) s X Y row ⟨v, hv, ho, trivial⟩ hg (fun r e => (hr r e).2)
  exact ⟨⟨v', h1, h2⟩, ownFrom_below (β := Unit) (Nat.le_refl _) hC () X Y row hb hg hr⟩
def glA (g : Gl) : Array Value := #[.string ⟨g.s.toArray⟩, .bool g.w, .int .i64 g.y]
theorem glsC_snoc (l : List Gl) (g : Gl) : glsC (l ++ [g]) = glsC l ++ (glA g).toList := by
  unfold glsC
  rw [List.flatMap_append]
  rfl
set_option maxRecDepth 100000 in
set_option maxHeartbeats 4000000 in
theorem appseq_in (w : World) (l : List Zl) (lv : Value) (k0 : Nat) (hl : ZRow l lv w) (hk0 : k0 < w.heap.size) (hk : w.cell? ⟨k0, 0, none⟩ = some lv)
    (hS : ∀ W1, Below w.heap.size w W1 → ∀ f b g : Int, Calls Tryd.prog 80 #[.agg #[.int .i64 f, .int .i64 b, .int .i64 g]] W1 fun e w' => e = .returned (.int .i64 (styZ g)) ∧ Below W1.heap.size W1 w') :
    Calls Tryd.prog 78 #[.slice none 0 0, .func (.func 79) #[] #[.pointer (some ⟨k0, 0, none⟩)]] w fun e w' =>
      ∃ v, e = .returned v ∧ w'.ownsRow w.heap.size 107 3 v (glyL l).length (glsC (glyL l)) ∧ Below w.heap.size w w' := by
  obtain ⟨i0, hi, hz0, hz1, hz2⟩ := glI
  have hl9 := hl.1
  refine (callsIn_wide (n := 8)).1 ?_
  refine callsIn_of_wp_marks Tryd.func78 rfl trivial ?_ rfl
  simp only [Tryd.ntmps78, List.size_toArray, List.length_cons, List.length_nil, Nat.reduceAdd, Nat.reduceSub, Array.replicate_succ, Array.replicate_zero, List.push_toArray, List.append_toArray, List.nil_append, List.cons_append]
  gi_wp2_with fail
  generalize hW0 : w.alloc (.cells #[.slice none 0 0] 23) = W0
  have hA0 : AI w [] W0 := by
    rw [← hW0]
    exact ⟨⟨_, Boxed.new w _ _, ⟨rfl, .inl ⟨rfl, rfl⟩⟩⟩, (Below.refl _ w).alloc (Nat.le_refl _) _⟩
  have hw0 : w.heap.size ≤ W0.heap.size := hA0.be.size
  clear hW0
  refine wpIn_rangeFunc_ownH rfl (by decide) (gf := 79) (lb := #[.pointer (some ⟨k0, 0, none⟩)]) rfl trivial (enters_of Tryd.func79 (by kernel_rfl) rfl)
    (encs := fun x : Gl => #[glV x]) (Kp := Below w.heap.size) (S := fun ys => ys = glyL l) (Sp := fun pre => ∃ rest, glyL l = pre ++ rest) (N := l.length) (w0 := w)
    (fun lp J Jx W hW hJ hJx hY h0 => glyphs1_in 7 (by decide) lp k0 l lv w W hl hW J Jx (fun s A B h hb => hJ s A B none h (grown_of_below hb) (fun r e => by cases e)) hS ((hW.cell (p := ⟨k0, 0, none⟩) hk0).trans hk) hY h0)
    (fun h k => h.trans k) (fun W lp o o' hlp h hc hw => belowK_b hw0 W lp o o' hlp h hc hw) hA0.be (fun _ => rfl)
    (AI w) (fun _ _ _ => False) (AI.own w hw0) (fun _ _ _ _ _ hs _ _ => hs) hA0
    (fun x a' W => ∃ B, a' = { tmps := #[.slice none 0 0, .func (.func 79) #[] #[.pointer (some ⟨k0, 0, none⟩)], .pointer (some ⟨w.heap.size, 0, none⟩), undef, .slice none 0 0, .pointer (some ⟨B, 0, none⟩), .func (.func 79) #[] #[.pointer (some ⟨k0, 0, none⟩)], glV x, undef, undef, undef, undef, undef], defers := [] } ∧ HasC W B (glA x) 107)
    (fun x a' _ X Y rw' hs hg hr => by
      obtain ⟨B, e, h⟩ := hs
      exact ⟨B, e, HasC.own B _ (fun _ : Unit => glA x) () X Y rw' h hg (fun r e => (hr r e).2)⟩) ?assign ?body ?done ?stop
  case assign =>
    rintro lp pre ⟨s, wd, y⟩ W K hI hK
    simp only [glV] at hK ⊢
    gi_wp2_with fail
    exact hK _ _ ((KeepsOthers.alloc W _).from _) ((Below.refl _ W).alloc hI.be.size _) (OwnFrom.alloc (AI.own w hw0) _ hI) ⟨_, rfl, HasC.new W _ _⟩
  case body =>
    rintro lp pre ⟨s, wd, y⟩ a' W hlp ⟨r, hr⟩ hI ⟨B, rfl, hB⟩ hlt
    have hB : HasC W B #[.string ⟨s.toArray⟩, .bool wd, .int .i64 y] 107 := hB
    simp only [glV]
    obtain ⟨v, hv, hrow⟩ := hI.b
    have hwz := hI.be.size
    have cv := hv.cell
    have hvl := hv.lt
    have c0 := hB.cell 0 rfl
    have c1 := hB.cell 1 rfl
    have c2 := hB.cell 2 rfl
    have hBl := hB.lt
    gi_wp2_with (gi_at_builtin; refine wpListIn_append_own _ rfl _ _ 23 rfl w.heap.size 107 i0 _ 3 32 Tryd.underlying23 hi hz0 hz1 hz2 rfl (by decide) v _ _ rfl (hrow.alloc _) ⟨W.heap.size, 0, none⟩ 1 1 [.string ⟨s.toArray⟩, .bool wd, .int .i64 y] rfl rfl ?d1 ?d2 ?d3 ?d4 ?d5 ?d6)
    case d1 =>
      intro j u hj
      rw [Addr.add_lit, Nat.zero_add]
      exact (HasC.new W #[.string ⟨s.toArray⟩, .bool wd, .int .i64 y] 107).cell j (by simpa using hj)
    case d2 =>
      intro u hu
      simp only [List.mem_cons, List.not_mem_nil, or_false] at hu
      rcases hu with rfl | rfl | rfl <;> rfl
    case d3 =>
      have : (1000001 : Nat) ≤ maxLen := by decide
      omega
    case d4 => omega
    case d5 => simp; omega
    case d6 =>
      intro v' w3 hown' hg3 hnil3
      obtain ⟨g', cap', rfl⟩ := ownsRow_succ hown'
      obtain ⟨q1, q2, q3, q4, q5⟩ := Boxed.appended hv (by decide) hrow hwz (Nat.le_refl _) hown' hg3
      have cv3 := q1.cell
      have fv3 := q1.frozen
      gi_wp2_with fail
      exact ⟨q4.from _, q5, ⟨⟨_, q2, by rw [glsC_snoc, List.length_append]; exact q3⟩, hI.be.trans q5⟩⟩
  case done =>
    rintro D zs W hD rfl hI hK
    obtain ⟨v, hv, hrow⟩ := hI.b
    have cv := hv.cell
    have hvl := hv.lt
    dsimp only
    gi_wp2_with fail
    refine leaves_marks [D] W (fun X hX => by simp at hX; subst hX; exact hK) (by simp) (fun W' e1 e2 e3 e4 e5 => ⟨_, results_tmp rfl _ _ _, v, rfl, ?_, ?_⟩)
    · have hg : W.grownBy W' (some D) := ⟨e1, e2, e3, by omega, fun k hk hne => e5 k (fun h => hne (by simp at h; rw [h]))⟩
      refine hrow.kept hg ?_
      rcases hrow.2 with ⟨rfl, _⟩ | ⟨g, cap, cur, rfl, _, hgb, _⟩
      · exact .inl rfl
      · refine .inr fun e' => ?_
        have : g = D := by simpa [Value.ownBlock] using e'
        subst this
        rw [hgb] at hK
        cases hK
    · exact hI.be.trans ⟨e1, e2, e3, by omega, fun k hk => e5 k (fun h => by simp at h; omega)⟩
  case stop =>
    rintro D c pre W _ _ h _
    exact h.elim
end
end Go.Proofs.YtlhagkbhojmjpaaDoor
