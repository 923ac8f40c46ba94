/- The contract of view.Of. -/
import Derived.Test.YtlhagkbhojmjpaaDoorKg
namespace Go.Proofs.YtlhagkbhojmjpaaDoor
set_option linter.unusedSimpArgs false
set_option linter.unusedVariables false
set_option linter.unusedSectionVars false
open Go.RowKit
theorem rrow_of {w : World} {R : List (List Zl)} {v : Value} (h : RepT (full w) (.slice false [.slice true [.str, .int .i64, .int .i64, .int .i64, .int .i64]]) (rwsT R) v) (hl : ∀ l ∈ R, l.length ≤ 1000000) : RRow R v w := by
  generalize hT : rwsT R = T at h
  cases h with
  | empty _ _ _ a cap he _ _ =>
    refine .inl ⟨?_, a, cap, rfl⟩
    have := congrArg List.length he
    rw [← hT, rwsT_len] at this
    simpa using this
  | slice _ _ _ g off cap cur el fr vals hM hcap hmax hc hr =>
    subst hT
    refine .inr ⟨g, off, cap, fun i => vals i 0, by rw [rwsT_len], (Array.getElem?_eq_some_iff.1 hM).1, fun i hi => ?_⟩
    have hi' : i < (rwsT R).asList.length := by rw [rwsT_len]; exact hi
    have e : (rwsT R).asList[i] = clsT (rw' R i) := by
      have := rws_get hi
      rw [List.getD_eq_getElem?_getD, List.getElem?_eq_getElem (by simpa using hi)] at this
      exact this
    have hh : w.heap[g]? = some (.cells cur el fr) := hM
    have c0 := hc i hi' 0 (by simp)
    have r0 := hr i hi' 0 (by simp)
    rw [e] at r0
    simp only [List.length_cons, List.length_nil, Nat.zero_add, Nat.mul_one, Nat.add_zero] at c0
    exact ⟨by simp [World.cell?, hh, c0], zrow_of r0 (hl _ (rw_mem hi))⟩
def Mod (r : List (List Zl)) : Prop := r.length ≤ 1000000 ∧ ∀ l ∈ r, l.length ≤ 1000000 ∧ ∀ c ∈ l, c.s.length ≤ 1000000
theorem Mod.txt {r : List (List Zl)} (h : Mod r) : TxtOk r := fun l hl c hc => (h.2 l hl).2 c hc
def ofT (t : TV) : TV := if showQ t = true then .agg [t.cells.getD 0 (.int 0), t.cells.getD 1 (.int 0), .list ((rowsQ t).map fun l => glsT (viewR l)), t.cells.getD 6 (.int 0), t.cells.getD 7 (.int 0), t.cells.getD 27 (.int 0)] else .agg [.int 0, .int 0, .list [], .int 0, .int 0, .bool false]
theorem ResRep.view {B : Nat} {w : World} {G : Nat → Prop} {t0 t1 t2 t3 t4 t5 : TV} {v : Value} (h : RepT (fresh w G B) (.slice false [.slice true [.str, .bool, .int .i64]]) t2 v) :
    ResRep B w G [(true, [((.int .i64), none), ((.int .i64), none), ((.slice false [(.slice true [.str, .bool, (.int .i64)])]), none), ((.int .i64), none), ((.int .i64), none), (.bool, none)])] (.agg [t0, t1, t2, t3, t4, t5]) (.agg #[.int .i64 t0.asInt, .int .i64 t1.asInt, v, .int .i64 t3.asInt, .int .i64 t4.asInt, .bool t5.asBool]) := by
  refine ⟨[.agg #[.int .i64 t0.asInt, .int .i64 t1.asInt, v, .int .i64 t3.asInt, .int .i64 t4.asInt, .bool t5.asBool]], rfl, rfl, fun i x u h1 h2 => ?_, rfl, fun i x u h1 h2 => ?_, List.nodup_nil⟩
  · match i, h1, h2 with
    | 0, h1, h2 => simp at h1 h2; subst h1 h2; exact ⟨_, rfl, rfl⟩
  · match i, h1, h2 with
    | 0, h1, h2 => cases h1; cases h2; exact RepT.int .i64 t0
    | 1, h1, h2 => cases h1; cases h2; exact RepT.int .i64 t1
    | 2, h1, h2 => cases h1; cases h2; exact h
    | 3, h1, h2 => cases h1; cases h2; exact RepT.int .i64 t3
    | 4, h1, h2 => cases h1; cases h2; exact RepT.int .i64 t4
    | 5, h1, h2 => cases h1; cases h2; exact RepT.bool t5
def tmA : List CT := [.int .i64, .int .i64, .slice false [.slice true [.str, .int .i64, .int .i64, .int .i64, .int .i64]], .int .i64, .int .i64, .slice false [.slice true [.str, .int .i64, .int .i64, .int .i64, .int .i64]], .int .i64, .int .i64, .bool, .int .i64, .int .i64, .bool, .int .i64, .int .i64, .int .i64, .bool, .int .u8, .int .u8, .int .i64, .int .i64, .int .i64, .int .i64, .bool, .bool, .bool, .bool, .bool, .bool, .bool, .bool, .int .u8, .int .u8, .int .i64, .int .i64, .int .i64, .slice false [.bool], .slice false [.slice true [.str, .int .i64, .int .i64, .int .i64, .int .i64]], .int .i64, .str, .str, .str, .str]
theorem argRep_tm {w W : World} {t : TV} {v : Value} (h : zwk w (true, tmA) t v) (hB : Below w.heap.size w W) : zwk W (true, tmA) t v := by
  unfold zwk at h ⊢
  rw [if_pos rfl] at h ⊢
  obtain ⟨vs, rfl, h1, h2⟩ := h
  exact ⟨vs, rfl, h1, fun c hc => by obtain ⟨u, k1, k2⟩ := h2 c hc; exact ⟨u, k1, k2.mono (below_mem hB)⟩⟩
theorem sho_calls {w : World} (hG : GlobOk (mkEnv globT []) gtabU w) {t : TV} {v : Value} (ht : TermOk t) (hm : Mod (rowsQ t)) (ha : zwk w (true, tmA) t v) : ∀ W1, Below w.heap.size w W1 → Calls Tryd.prog 37 #[v] W1 fun e w' => e = .returned (.bool (showQ t)) ∧ Below W1.heap.size W1 w' := fun W1 hB => by
  refine ((psho_c 0).calls W1 [t] #[v] (glob_leU hG (below_mem hB)) ⟨rfl, rfl, fun i x t' v' h1 h2 h3 => ?_⟩ (psho_pre ⟨ht, hm.txt⟩)).mono ?_
  · match i, h1, h2, h3 with
    | 0, h1, h2, h3 => cases h1; cases h2; cases h3; exact argRep_tm ha hB
  · rintro e w' ⟨r, u, G, rfl, hp, hb, _, hr⟩
    obtain rfl := hp _ rfl
    obtain ⟨vs, hv, hl, hs, _, hc, _⟩ := hr
    match vs, hl with
    | [v'], _ =>
      have h2 : RepT (fresh w' G W1.heap.size) .bool (.bool (showQ t)) v' := hc 0 _ _ rfl rfl
      have hv : u = v' := hv
      subst hv
      have := repBool h2
      subst this
      exact ⟨rfl, hb⟩
def pofL : Law := ⟨fun ts => ∃ (t : TV), ts = [t] ∧ (TermOk t ∧ Mod (rowsQ t)), fun ts z₀ => ∀ (t : TV), ts = [t] → z₀ = ofT t⟩
theorem pof_pre {t : TV} (h : TermOk t ∧ Mod (rowsQ t)) : pofL.pre [t] := ⟨t, rfl, h⟩
theorem pof_fin {t : TV} {z₀ : TV} (h : z₀ = ofT t) : pofL.post [t] z₀ := fun t₁ e => by
  simp only [List.cons.injEq, TV.str.injEq, TV.int.injEq, TV.bool.injEq, TV.agg.injEq, TV.list.injEq, zat, and_true, true_and, and_assoc] at e; subst e
  exact h
theorem pof_all {t : TV} {Q : TV → Prop} : (∀ z₀, pofL.post [t] z₀ → Q z₀) ↔ Q (ofT t) := ⟨fun h => h _ (pof_fin rfl), fun h z₀ hr => by rw [hr _ rfl]; exact h⟩
theorem pof_c (k : Nat) : Contract Tryd.prog (mkEnv globT []) gtabU (sn_view_Of k) pofL.pre pofL.post := ⟨⟨Tryd.f15, Tryd.f15.body.getD .skip, Tryd.func15, by kernel_rfl, by kernel_rfl⟩, by
  intro w ts vs hG ha hp
  obtain ⟨t, rfl, ht, hm⟩ := hp
  obtain ⟨v, rfl, hv⟩ := args1 ha
  have hv : zwk w (true, tmA) t v := hv
  have hSho := sho_calls hG ht hm hv
  unfold zwk at hv
  rw [if_pos rfl] at hv
  obtain ⟨az, rfl, h1, h2⟩ := hv
  obtain ⟨u0, i0, r0⟩ := h2 0 (by decide)
  obtain ⟨u1, i1, r1⟩ := h2 1 (by decide)
  obtain ⟨u2, i2, r2⟩ := h2 2 (by decide)
  obtain ⟨u6, i6, r6⟩ := h2 6 (by decide)
  obtain ⟨u7, i7, r7⟩ := h2 7 (by decide)
  obtain ⟨u27, i27, r27⟩ := h2 27 (by decide)
  have r2 : RepT (full w) (.slice false [.slice true [.str, .int .i64, .int .i64, .int .i64, .int .i64]]) (t.cells.getD 2 (.int 0)) u2 := r2
  rw [ht.r] at r2
  have hR := rrow_of r2 (fun l hl => (hm.2 l hl).1)
  obtain ⟨a2, n2, c2, rfl⟩ := rep_sl r2
  obtain rfl := qn6 r0
  obtain rfl := qn6 r1
  obtain rfl := qn6 r6
  obtain rfl := qn6 r7
  obtain rfl := repBool r27
  rw [Array.getElem?_toList] at i0 i1 i2 i6 i7 i27
  have hT : TrmV az _ _ _ _ _ a2 n2 c2 := ⟨by have h3 : az.toList.length = 42 := h1; simpa using h3, i0, i1, i2, i6, i7, i27⟩
  refine (of_in hG az _ _ _ _ _ a2 n2 c2 hT (rwsOf (t.cells.getD 2 (.int 0))) hR hm.1 (showQ t) hSho).mono ?_
  rintro e w' (⟨hs, rfl, hb⟩ | ⟨hs, rv, rfl, hrv, hb⟩)
  · refine ⟨ofT t, _, fun _ => False, rfl, pof_fin rfl, hb, fun g hg => hg.elim, ?_⟩
    unfold ofT
    rw [if_neg (by rw [hs]; decide)]
    exact ResRep.view (t0 := .int 0) (t1 := .int 0) (t3 := .int 0) (t4 := .int 0) (t5 := .bool false) (.empty false _ (.list []) none 0 rfl (fun _ => rfl) (Nat.zero_le _))
  · refine ⟨ofT t, _, fun _ => False, rfl, pof_fin rfl, hb, fun g hg => hg.elim, ?_⟩
    unfold ofT
    rw [if_pos hs]
    exact ResRep.view hrv⟩
end Go.Proofs.YtlhagkbhojmjpaaDoor
