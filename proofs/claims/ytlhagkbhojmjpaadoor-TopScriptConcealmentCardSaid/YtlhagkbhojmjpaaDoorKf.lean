/- view.Of, walked by hand: what it needs of memory. -/
import Derived.Test.YtlhagkbhojmjpaaDoorKe
namespace Go.Proofs.YtlhagkbhojmjpaaDoor
set_option linter.unusedSimpArgs false
set_option linter.unusedVariables false
set_option linter.unusedSectionVars false
set_option linter.unnecessarySimpa false
section
open Go.RowKit Go.Shelf
attribute [local go_sem] Oper.semAt_some
theorem glob_leU {Γ : CEnv} {gt : GT} {w W : World} (h : GlobOk Γ gt w) (hl : Mem.le (full w) (full W)) : GlobOk Γ gt W := fun g ag cs hm => ⟨(h g ag cs hm).1.mono hl, (h g ag cs hm).2⟩
set_option maxRecDepth 100000 in
theorem collect_in (w : World) (l : List Zl) (lv : Value) (k0 : Nat) (hl : ZRow l lv w) (hk0 : k0 < w.heap.size) (hk : w.cell? ⟨k0, 0, none⟩ = some lv)
    (hS : ∀ W1, Below w.heap.size w W1 → ∀ f b g : Int, Calls Tryd.prog 80 #[.agg #[.int .i64 f, .int .i64 b, .int .i64 g]] W1 fun e w' => e = .returned (.int .i64 (styZ g)) ∧ Below W1.heap.size W1 w') :
    Calls Tryd.prog 39 #[.func (.func 79) #[] #[.pointer (some ⟨k0, 0, none⟩)]] w fun e w' =>
      ∃ v, e = .returned v ∧ w'.ownsRow w.heap.size 107 3 v (glyL l).length (glsC (glyL l)) ∧ Below w.heap.size w w' := by
  refine (callsIn_wide (n := 8)).1 ?_
  refine callsIn_of_wp Tryd.func39 rfl trivial ?_ rfl
  simp only [Tryd.ntmps39, List.size_toArray, List.length_cons, List.length_nil, Nat.reduceAdd, Nat.reduceSub, Array.replicate_succ, Array.replicate_zero, List.push_toArray, List.append_toArray, List.nil_append, List.cons_append]
  gi_wp2_with (refine ⟨trivial, ?_⟩; gi_at_call 78; refine (callsIn_wide.2 (appseq_in w l lv k0 hl hk0 hk hS)).mono ?_; rintro e w' ⟨v, rfl, ho, hb⟩)
  go_ret
  exact ⟨v, rfl, ho, hb⟩

def MG (B : Nat) (W : World) : Mem := fun g o => W.heap[g]? = some o ∧ B ≤ g ∧ ∃ cur fr, o = .cells cur 107 fr
theorem MG.grown {B : Nat} {W W' : World} {row : Option Nat} (h : W.grownBy W' row) (hr : ∀ g, row = some g → ∀ cur fr, W.heap[g]? ≠ some (.cells cur 107 fr)) : Mem.le (MG B W) (MG B W') := fun g o hg => by
  obtain ⟨h1, h2, cur, fr, rfl⟩ := hg
  refine ⟨(h.block g (Array.getElem?_eq_some_iff.1 h1).1 (fun e => hr g e.symm cur fr h1)).trans h1, h2, cur, fr, rfl⟩
theorem MG.fresh (B : Nat) (W : World) : Mem.le (MG B W) (Proofs.YtlhagkbhojmjpaaDoor.fresh W (fun _ => False) B) := fun g o hg => ⟨hg.1, id, hg.2.1⟩
theorem MG.full (B : Nat) (W : World) : Mem.le (MG B W) (Proofs.YtlhagkbhojmjpaaDoor.full W) := fun g o hg => hg.1
theorem rep_ownG {B B' : Nat} {W : World} {l : List Gl} {v : Value} {xs : List Value} {M : Mem} (h : W.ownsRow B' 107 3 v (glsT l).asList.length xs) (hr : RowT M true [.str, .bool, .int .i64] (glsT l).asList xs) (hB : B ≤ B') : RepT (MG B W) (.slice true [.str, .bool, .int .i64]) (glsT l) v := by
  rcases h.2 with ⟨rfl, h0⟩ | ⟨g, cap, cur, rfl, hb, hh, h1, h2, h3, h4⟩
  · exact .empty true _ (glsT l) none 0 (List.eq_nil_of_length_eq_zero h0) (fun _ => rfl) (Nat.zero_le _)
  · have hx : ∀ k, k < (glsT l).asList.length * 3 → cur[k]? = xs[k]? := fun k hk => by
      rw [← h4, List.getElem?_take, if_pos hk, Array.getElem?_toList]
    refine .slice true [.str, .bool, .int .i64] (glsT l) g 0 cap cur 107 (0, 0) (fun i c => (xs[i * 3 + c]?).getD undef) ⟨hh, Nat.le_trans hB hb, cur, (0, 0), rfl⟩ h1 h2 (fun i hi c hc => ?_) (fun i hi c hc => ?_)
    · have hc3 : c < 3 := hc
      obtain ⟨u, k1, k2⟩ := hr.2 i hi c hc
      have k1 : xs[i * 3 + c]? = some u := k1
      show cur[0 + i * 3 + c]? = _
      rw [Nat.zero_add, hx _ (by omega), k1]
      rfl
    · have hc3 : c < 3 := hc
      obtain ⟨u, k1, k2⟩ := hr.2 i hi c hc
      have k1 : xs[i * 3 + c]? = some u := k1
      rw [k1]
      refine k2.flat ?_
      match c, hc3 with
      | 0, _ => rfl
      | 1, _ => rfl
      | 2, _ => rfl
theorem zrow_of {w : World} {l : List Zl} {v : Value} (h : RepT (full w) (.slice true [.str, .int .i64, .int .i64, .int .i64, .int .i64]) (clsT l) v) (hl : l.length ≤ 1000000) : ZRow l v w := by
  generalize hT : clsT l = T at h
  cases h with
  | empty _ _ _ a cap he _ _ =>
    refine ⟨hl, .inl ⟨?_, a, cap, rfl⟩⟩
    have := congrArg List.length he
    rw [← hT, clsT_len] at this
    simpa using this
  | slice _ _ _ g off cap cur el fr vals hM hcap hmax hc hr =>
    subst hT
    refine ⟨hl, .inr ⟨g, off, cap, by rw [clsT_len], (Array.getElem?_eq_some_iff.1 hM).1, fun i hi => ?_⟩⟩
    have hi' : i < (clsT l).asList.length := by rw [clsT_len]; exact hi
    have e : (clsT l).asList[i] = clT (cc l i) := by
      have := cls_get hi
      rw [List.getD_eq_getElem?_getD, List.getElem?_eq_getElem (by simpa using hi)] at this
      exact this
    have hh : w.heap[g]? = some (.cells cur el fr) := hM
    have c0 := hc i hi' 0 (by simp)
    have c1 := hc i hi' 1 (by simp)
    have c2 := hc i hi' 2 (by simp)
    have c3 := hc i hi' 3 (by simp)
    have c4 := hc i hi' 4 (by simp)
    have r0 := hr i hi' 0 (by simp)
    have r1 := hr i hi' 1 (by simp)
    have r2 := hr i hi' 2 (by simp)
    have r3 := hr i hi' 3 (by simp)
    have r4 := hr i hi' 4 (by simp)
    rw [e] at r0 r1 r2 r3 r4
    rw [repStr r0] at c0
    rw [qn6 r1] at c1
    rw [qn6 r2] at c2
    rw [qn6 r3] at c3
    rw [qn6 r4] at c4
    simp only [List.length_cons, List.length_nil, Nat.zero_add, Nat.reduceAdd, Nat.add_zero] at c0 c1 c2 c3 c4
    exact ⟨by simp [World.cell?, hh, c0, clT, zbk, TV.cell, TV.cells, TV.asStr], by simp [World.cell?, hh, c1, clT, zbk, TV.cell, TV.cells, TV.asInt], by simp [World.cell?, hh, c2, clT, zbk, TV.cell, TV.cells, TV.asInt], by simp [World.cell?, hh, c3, clT, zbk, TV.cell, TV.cells, TV.asInt], by simp [World.cell?, hh, c4, clT, zbk, TV.cell, TV.cells, TV.asInt]⟩
theorem ZRow.below {l : List Zl} {v : Value} {W W' : World} (h : ZRow l v W) (k : Below W.heap.size W W') : ZRow l v W' := by
  refine ⟨h.1, ?_⟩
  rcases h.2 with h0 | ⟨b, off, cap, e, hb, hc⟩
  · exact .inl h0
  · exact .inr ⟨b, off, cap, e, Nat.lt_of_lt_of_le hb k.size, fun i hi => by
      obtain ⟨x0, x1, x2, x3, x4⟩ := hc i hi
      have tr : ∀ {o : Nat} {v : Value}, W.cell? ⟨b, o, none⟩ = some v → W'.cell? ⟨b, o, none⟩ = some v := fun h => (World.cell?_of_block (k.block b hb)).trans h
      exact ⟨tr x0, tr x1, tr x2, tr x3, tr x4⟩⟩

def viewR (l : List Zl) : List Gl := trimZ (glyL l)
theorem sty_calls {w : World} (hG : GlobOk (mkEnv globT []) gtabU w) : ∀ W1, Below w.heap.size w W1 → ∀ f b g : Int, Calls Tryd.prog 80 #[.agg #[.int .i64 f, .int .i64 b, .int .i64 g]] W1 fun e w' => e = .returned (.int .i64 (styZ g)) ∧ Below W1.heap.size W1 w' := fun W1 hB f b g => by
  refine ((sty_c 0).calls W1 [.agg [.int f, .int b, .int g]] #[.agg #[.int .i64 f, .int .i64 b, .int .i64 g]] (glob_leU hG (below_mem hB)) ⟨rfl, rfl, fun i x t v h1 h2 h3 => ?_⟩ (sty_pre trivial)).mono ?_
  · match i, h1, h2, h3 with
    | 0, h1, h2, h3 =>
      cases h1; cases h2; cases h3
      refine ⟨_, rfl, rfl, fun c hc => ?_⟩
      match c, hc with
      | 0, _ => exact ⟨_, rfl, RepT.int .i64 (.int f)⟩
      | 1, _ => exact ⟨_, rfl, RepT.int .i64 (.int b)⟩
      | 2, _ => exact ⟨_, rfl, RepT.int .i64 (.int g)⟩
  · rintro e w' ⟨r, v, G, rfl, hp, hb, _, hr⟩
    obtain rfl := hp _ _ _ rfl
    obtain rfl := ResRep.int hr
    exact ⟨rfl, hb⟩
theorem trim_calls {w : World} (hG : GlobOk (mkEnv globT []) gtabU w) {l : List Gl} (hl : l.length ≤ 1000000) {v : Value} : ∀ W1, Below w.heap.size w W1 → RepT (full W1) (.slice true [.str, .bool, .int .i64]) (glsT l) v → Calls Tryd.prog 38 #[v] W1 fun e w' => ∃ u, e = .returned u ∧ RepT (MG W1.heap.size w') (.slice true [.str, .bool, .int .i64]) (glsT (trimZ l)) u ∧ Below W1.heap.size W1 w' := fun W1 hB hv => by
  refine ((trim_c 0).calls W1 [glsT l] #[v] (glob_leU hG (below_mem hB)) ⟨rfl, rfl, fun i x t v h1 h2 h3 => ?_⟩ (trim_pre hl)).mono ?_
  · match i, h1, h2, h3 with
    | 0, h1, h2, h3 => cases h1; cases h2; cases h3; exact ⟨_, rfl, hv⟩
  · rintro e w' ⟨r, u, G, rfl, hp, hb, _, hr⟩
    obtain rfl := hp _ rfl
    refine ⟨u, rfl, ?_, hb⟩
    obtain ⟨vs, hv, hl, hs, _, hc, _⟩ := hr
    match vs, hl with
    | [v'], _ =>
      obtain ⟨xs, k1, k2, _⟩ := hc 0 _ _ rfl rfl
      have : u = v' := hv
      subst this
      exact rep_ownG k1 k2 (Nat.le_refl _)
end
end Go.Proofs.YtlhagkbhojmjpaaDoor
