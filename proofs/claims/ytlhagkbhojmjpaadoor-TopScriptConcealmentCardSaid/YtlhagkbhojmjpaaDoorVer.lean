/- Contracts of the verification and of runs. -/
import Derived.Test.YtlhagkbhojmjpaaDoorSaf
namespace Go.Proofs.YtlhagkbhojmjpaaDoor
set_option linter.unusedSimpArgs false
set_option linter.unusedVariables false
set_option linter.unusedSectionVars false
open Go.RowKit

theorem qn6 {M : Mem} {k : IntKind} {t : TV} {v : Value} (h : RepT M (.int k) t v) : v = .int k t.asInt := by cases h; rfl
theorem repStr {M : Mem} {t : TV} {v : Value} (h : RepT M .str t v) : v = .string ⟨t.asStr.toArray⟩ := by cases h; rfl
theorem repBool {M : Mem} {t : TV} {v : Value} (h : RepT M .bool t v) : v = .bool t.asBool := by cases h; rfl
theorem irow_of {w : World} {l : List Ins} {v : Value} (h : RepT (full w) (.slice true [.int .i64, .int .i64]) (scrT l) v) (hl : l.length ≤ 1000000) : IRow l v w := by
  generalize hT : scrT l = T at h
  cases h with
  | empty _ _ _ a cap he _ _ =>
    refine ⟨hl, .inl ⟨?_, a, cap, rfl⟩⟩
    have := congrArg List.length he
    rw [← hT, scrT_len] at this
    simpa using this
  | slice _ _ _ g off cap cur el fr vals hM hcap hmax hc hr =>
    subst hT
    refine ⟨hl, .inr ⟨g, off, cap, by rw [scrT_len], (Array.getElem?_eq_some_iff.1 hM).1, fun i hi => ?_⟩⟩
    have hi' : i < (scrT l).asList.length := by rw [scrT_len]; exact hi
    have e : (scrT l).asList[i] = insT (xx l i) := by
      have := scr_get hi
      rw [List.getD_eq_getElem?_getD, List.getElem?_eq_getElem (by simpa using hi)] at this
      exact this
    have c0 := hc i hi' 0 (by simp)
    have c1 := hc i hi' 1 (by simp)
    have r0 := hr i hi' 0 (by simp)
    have r1 := hr i hi' 1 (by simp)
    rw [e] at r0 r1
    rw [qn6 r0] at c0
    rw [qn6 r1] at c1
    have hh : w.heap[g]? = some (.cells cur el fr) := hM
    simp only [List.length_cons, List.length_nil, Nat.zero_add, Nat.reduceAdd, Nat.add_zero] at c0 c1
    exact ⟨by simp [World.cell?, hh, c0, insT, zbk, TV.cell, TV.cells, TV.asInt], by simp [World.cell?, hh, c1, insT, zbk, TV.cell, TV.cells, TV.asInt]⟩
theorem grow_of {w : World} {l : List Gl} {v : Value} (h : RepT (full w) (.slice true [.str, .bool, .int .i64]) (glsT l) v) (hl : l.length ≤ 1000000) : GRow l v w := by
  generalize hT : glsT l = T at h
  cases h with
  | empty _ _ _ a cap he _ _ =>
    refine ⟨hl, .inl ⟨?_, a, cap, rfl⟩⟩
    have := congrArg List.length he
    rw [← hT, zbo] at this
    simpa using this
  | slice _ _ _ g off cap cur el fr vals hM hcap hmax hc hr =>
    subst hT
    refine ⟨hl, .inr ⟨g, off, cap, by rw [zbo], (Array.getElem?_eq_some_iff.1 hM).1, fun i hi j hj => ?_⟩⟩
    have hi' : i < (glsT l).asList.length := by rw [zbo]; exact hi
    have e : (glsT l).asList[i] = glT (gg l i) := by
      have := zi7 hi
      rw [List.getD_eq_getElem?_getD, List.getElem?_eq_getElem (by simpa using hi)] at this
      exact this
    have hh : w.heap[g]? = some (.cells cur el fr) := hM
    match j, hj with
    | 0, _ =>
      have c0 := hc i hi' 0 (by simp)
      have r0 := hr i hi' 0 (by simp)
      rw [e] at r0
      rw [repStr r0] at c0
      simp only [List.length_cons, List.length_nil, Nat.zero_add, Nat.reduceAdd, Nat.add_zero] at c0
      simp [World.cell?, hh, c0, glT, zbk, TV.cell, TV.cells, TV.asStr, glC]
    | 1, _ =>
      have c0 := hc i hi' 1 (by simp)
      have r0 := hr i hi' 1 (by simp)
      rw [e] at r0
      rw [repBool r0] at c0
      simp only [List.length_cons, List.length_nil, Nat.zero_add, Nat.reduceAdd, Nat.add_zero] at c0
      simp [World.cell?, hh, c0, glT, zbk, TV.cell, TV.cells, TV.asBool, glC]
    | 2, _ =>
      have c0 := hc i hi' 2 (by simp)
      have r0 := hr i hi' 2 (by simp)
      rw [e] at r0
      rw [qn6 r0] at c0
      simp only [List.length_cons, List.length_nil, Nat.zero_add, Nat.reduceAdd, Nat.add_zero] at c0
      simp [World.cell?, hh, c0, glT, zbk, TV.cell, TV.cells, TV.asInt, glC]
theorem ResRep.int {B : Nat} {w : World} {G : Nat → Prop} {k : IntKind} {n : Int} {v : Value} (h : ResRep B w G [(false, [(.int k, none)])] (.int n) v) : v = .int k n := by
  obtain ⟨vs, hv, hl, hs, _, hc, _⟩ := h
  match vs, hl with
  | [v'], _ =>
    have := hc 0 _ _ rfl rfl
    have h2 : RepT (fresh w G B) (.int k) (.int n) v' := this
    cases h2
    exact hv
theorem qn5 {w : World} (hG : GlobOk (mkEnv globT []) gtab w) {l : List Ins} {lv : Value} (h : RepT (full w) (.slice true [.int .i64, .int .i64]) (scrT l) lv) : ∀ W, Below w.heap.size w W → Calls Tryd.prog 27 #[lv] W fun e w' => e = .returned (.int .i64 (chkS l)) ∧ Below W.heap.size W w' := fun W hB => by
  refine ((scck_c 0).calls W [scrT l] #[lv] (glob_le hG (below_mem hB)) ⟨rfl, rfl, fun i x t v h1 h2 h3 => ?_⟩ (scck_pre trivial)).mono ?_
  · match i, h1, h2, h3 with
    | 0, h1, h2, h3 => cases h1; cases h2; cases h3; exact ⟨_, rfl, h.mono (below_mem hB)⟩
  · rintro e w' ⟨r, v, G, rfl, hp, hb, _, hr⟩
    obtain rfl := hp _ rfl
    obtain rfl := ResRep.int hr
    exact ⟨rfl, hb⟩

set_option maxRecDepth 100000 in
theorem verify_in {w : World} (hG : GlobOk (mkEnv globT []) gtab w) (l : List Ins) (lv : Value) (hl : IRow l lv w)
    (hCk : ∀ W, Below w.heap.size w W → Calls Tryd.prog 27 #[lv] W fun e w' => e = .returned (.int .i64 (chkS l)) ∧ Below W.heap.size W w') :
    Calls Tryd.prog 7 #[lv] w fun e w' => e = .returned (.int .i64 (depE l)) ∧ Below w.heap.size w w' := by
  have hd := depths_in hG l lv hl hCk
  obtain ⟨la, lc, rfl⟩ := hl.val
  refine (callsIn_wide (n := 8)).1 ?_
  refine callsIn_of_wp Tryd.func7 rfl trivial ?_ rfl
  simp only [Tryd.ntmps7, List.size_toArray, List.length_cons, List.length_nil, Nat.reduceAdd, Nat.reduceSub, Array.replicate_succ, Array.replicate_zero, List.push_toArray, List.append_toArray, List.nil_append, List.cons_append]
  gi_wp2_with (refine ⟨trivial, ?_⟩; gi_at_call 26; refine (callsIn_wide.2 hd).mono ?_; rintro e w' ⟨⟨v, rfl⟩, hb⟩)
  go_ret
  exact ⟨rfl, hb⟩
theorem args1 {w : World} {x : Bool × List CT} {t : TV} {vs : Array Value} (h : zn2 w [x] [t] vs.toList) : ∃ v, vs = #[v] ∧ zwk w x t v := by
  obtain ⟨v, vs', e, h1, h2⟩ := zcl h
  obtain ⟨_, rfl⟩ := zgh h2
  refine ⟨v, ?_, h1⟩
  rcases vs with ⟨l⟩
  simp only at e
  rw [e]
def verL : Law := ⟨fun ts => ∃ (l : List Ins), ts = [scrT l] ∧ (l.length ≤ 1000000), fun ts z₀ => ∀ (l : List Ins), ts = [scrT l] → z₀ = .int (depE l)⟩
theorem ver_pre {l : List Ins} (h : l.length ≤ 1000000) : verL.pre [scrT l] := ⟨l, rfl, h⟩
theorem ver_fin {l : List Ins} {z₀ : TV} (h : z₀ = .int (depE l)) : verL.post [scrT l] z₀ := fun l₁ e => by
  simp only [List.cons.injEq, TV.str.injEq, TV.int.injEq, TV.bool.injEq, TV.agg.injEq, TV.list.injEq, zat, and_true, true_and, and_assoc, scrT_eq] at e; subst e
  exact h
theorem ver_all {l : List Ins} {Q : TV → Prop} : (∀ z₀, verL.post [scrT l] z₀ → Q z₀) ↔ Q (.int (depE l)) := ⟨fun h => h _ (ver_fin rfl), fun h z₀ hr => by rw [hr _ rfl]; exact h⟩
theorem ver_c (k : Nat) : Contract Tryd.prog (mkEnv globT []) gtab (qmi k) verL.pre verL.post := by
  refine Contract.leaf ⟨Tryd.f7, Tryd.f7.body.getD .skip, Tryd.func7, by kernel_rfl, by kernel_rfl⟩ ?_
  intro w ts vs hG ha hp
  obtain ⟨l, rfl, hl⟩ := hp
  obtain ⟨lv, rfl, ct, e, hr⟩ := args1 ha
  cases e
  exact ⟨.int (depE l), .int .i64 (depE l), fun M => RepT.int .i64 (.int _), ver_fin rfl, verify_in hG l lv (irow_of hr hl) (qn5 hG hr)⟩
theorem ResRep.two_ints {B : Nat} {w : World} {G : Nat → Prop} (a b : Int) :
    ResRep B w G [(false, [((.int .i64), none)]), (false, [((.int .i64), none)])] (.agg [.int a, .int b]) (.tuple #[.int .i64 a, .int .i64 b]) := by
  refine ⟨[.int .i64 a, .int .i64 b], rfl, rfl, fun i x u h1 h2 => ?_, rfl, fun i x u h1 h2 => ?_, List.nodup_nil⟩
  · match i, h1, h2 with
    | 0, h1, h2 => simp at h1 h2; subst h1 h2; rfl
    | 1, h1, h2 => simp at h1 h2; subst h1 h2; rfl
  · match i, h1, h2 with
    | 0, h1, h2 => cases h1; cases h2; exact RepT.int .i64 (.int a)
    | 1, h1, h2 => cases h1; cases h2; exact RepT.int .i64 (.int b)
theorem ResRep.five {B : Nat} {w : World} {G : Nat → Prop} (a b c d e : Int) :
    ResRep B w G [(true, [((.int .i64), none), ((.int .i64), none), ((.int .i64), none), ((.int .i64), none), ((.int .i64), none)])] (.agg [.int a, .int b, .int c, .int d, .int e]) (.agg #[.int .i64 a, .int .i64 b, .int .i64 c, .int .i64 d, .int .i64 e]) := by
  refine ⟨[.agg #[.int .i64 a, .int .i64 b, .int .i64 c, .int .i64 d, .int .i64 e]], rfl, rfl, fun i x u h1 h2 => ?_, rfl, fun i x u h1 h2 => ?_, List.nodup_nil⟩
  · match i, h1, h2 with
    | 0, h1, h2 => simp at h1 h2; subst h1 h2; exact ⟨_, rfl, rfl⟩
  · match i, h1, h2 with
    | 0, h1, h2 => cases h1; cases h2; exact RepT.int .i64 (.int a)
    | 1, h1, h2 => cases h1; cases h2; exact RepT.int .i64 (.int b)
    | 2, h1, h2 => cases h1; cases h2; exact RepT.int .i64 (.int c)
    | 3, h1, h2 => cases h1; cases h2; exact RepT.int .i64 (.int d)
    | 4, h1, h2 => cases h1; cases h2; exact RepT.int .i64 (.int e)
def fueL : Law := ⟨fun ts => ∃ (l : List Ins), ts = [scrT l] ∧ (chkS l = 0 ∧ l.length ≤ 500), fun ts z₀ => ∀ (l : List Ins), ts = [scrT l] → z₀ = .agg [.int (fuelZ l), .int 0]⟩
theorem fue_pre {l : List Ins} (h : chkS l = 0 ∧ l.length ≤ 500) : fueL.pre [scrT l] := ⟨l, rfl, h⟩
theorem fue_fin {l : List Ins} {z₀ : TV} (h : z₀ = .agg [.int (fuelZ l), .int 0]) : fueL.post [scrT l] z₀ := fun l₁ e => by
  simp only [List.cons.injEq, TV.str.injEq, TV.int.injEq, TV.bool.injEq, TV.agg.injEq, TV.list.injEq, zat, and_true, true_and, and_assoc, scrT_eq] at e; subst e
  exact h
theorem fue_all {l : List Ins} {Q : TV → Prop} : (∀ z₀, fueL.post [scrT l] z₀ → Q z₀) ↔ Q (.agg [.int (fuelZ l), .int 0]) := ⟨fun h => h _ (fue_fin rfl), fun h z₀ hr => by rw [hr _ rfl]; exact h⟩
theorem fue_c (k : Nat) : Contract Tryd.prog (mkEnv globT []) gtab (qnh k) fueL.pre fueL.post := ⟨⟨Tryd.f9, Tryd.f9.body.getD .skip, Tryd.func9, by kernel_rfl, by kernel_rfl⟩, by
  intro w ts vs hG ha hp
  obtain ⟨l, rfl, hc, hl⟩ := hp
  obtain ⟨lv, rfl, ct, e, hr⟩ := args1 ha
  cases e
  refine (fuel_in l lv (irow_of hr (by omega)) hc hl (qn5 hG hr)).mono ?_
  rintro e w' ⟨rfl, hb⟩
  exact ⟨_, _, fun _ => False, rfl, fue_fin rfl, hb, fun g hg => hg.elim, ResRep.two_ints _ _⟩⟩

def setG (m : Mch) (v : Value) : Mch := { m with gl := v }
theorem popV_g (m : Mch) (v : Value) : popV (setG m v) = popV m := rfl
theorem popS_g (m : Mch) (v : Value) : popS (setG m v) = setG (popS m) v := by
  unfold popS
  by_cases h : m.dp = 0
  · rw [if_pos h, if_pos (show (setG m v).dp = 0 from h)]; rfl
  · rw [if_neg h, if_neg (show ¬ (setG m v).dp = 0 from h)]; rfl
theorem pushS_g (m : Mch) (v : Value) (z : Int) : pushS (setG m v) z = setG (pushS m z) v := by
  unfold pushS
  by_cases h : m.dp = 16
  · rw [if_pos h, if_pos (show (setG m v).dp = 16 from h)]; rfl
  · rw [if_neg h, if_neg (show ¬ (setG m v).dp = 16 from h)]; rfl
theorem unS_g (m : Mch) (v : Value) (gs : List Gl) (op : Int) : unS (setG m v) gs op = setG (unS m gs op) v := by
  unfold unS
  rw [popV_g, popS_g, popS_g, popV_g]
  simp only [pushS_g]
  by_cases h4 : op = 4
  · rw [if_pos h4, if_pos h4]
  by_cases h5 : op = 5
  · rw [if_neg h4, if_pos h5, if_neg h4, if_pos h5]
  by_cases h13 : op = 13
  · rw [if_neg h4, if_neg h5, if_pos h13, if_neg h4, if_neg h5, if_pos h13]
  by_cases h14 : op = 14
  · rw [if_neg h4, if_neg h5, if_neg h13, if_pos h14, if_neg h4, if_neg h5, if_neg h13, if_pos h14]
  by_cases h16 : op = 16
  · rw [if_neg h4, if_neg h5, if_neg h13, if_neg h14, if_pos h16, if_neg h4, if_neg h5, if_neg h13, if_neg h14, if_pos h16]
  rw [if_neg h4, if_neg h5, if_neg h13, if_neg h14, if_neg h16, if_neg h4, if_neg h5, if_neg h13, if_neg h14, if_neg h16]
  by_cases h19 : op = 19
  · rw [if_pos h19, if_pos h19]; split <;> rfl
  rw [if_neg h19, if_neg h19]
  by_cases h20 : op = 20
  · rw [if_pos h20, if_pos h20]; split <;> rfl
  · rw [if_neg h20, if_neg h20]
theorem simS_g (m : Mch) (v : Value) (gs : List Gl) (op arg : Int) : simS (setG m v) gs op arg = setG (simS m gs op arg) v := by
  have e : valZ (setG m v) gs op arg = valZ m gs op arg := rfl
  unfold simS
  rw [e]
  cases valZ m gs op arg with
  | some z => exact pushS_g m v z
  | none =>
    show (if 8 ≤ op ∧ op ≤ 12 then binS (setG m v) op else unS (setG m v) gs op) = setG (if 8 ≤ op ∧ op ≤ 12 then binS m op else unS m gs op) v
    split
    · unfold binS; rw [popV_g, popS_g, popS_g, popV_g, pushS_g]
    · exact unS_g m v gs op
theorem stepX_g (l : List Ins) (m : Mch) (v : Value) (gs : List Gl) (x : Ins) (i : Nat) : stepX l gs x i (setG m v) = ((stepX l gs x i m).1, setG (stepX l gs x i m).2 v) := by
  unfold stepX
  rw [popV_g, popS_g, simS_g]
  by_cases h0 : x.1 = 0
  · rw [if_pos h0, if_pos h0]
  by_cases h17 : x.1 = 17
  · rw [if_neg h0, if_pos h17, if_neg h0, if_pos h17]
  by_cases h18 : x.1 = 18
  · rw [if_neg h0, if_neg h17, if_pos h18, if_neg h0, if_neg h17, if_pos h18]
  · rw [if_neg h0, if_neg h17, if_neg h18, if_neg h0, if_neg h17, if_neg h18]
theorem runZ_g (l : List Ins) (gs : List Gl) (c0 w0 F : Int) (v : Value) : ∀ (g i s : Nat) (m : Mch), runZ l gs c0 w0 F g i s (setG m v) = runZ l gs c0 w0 F g i s m
  | 0, i, s, m => rfl
  | g + 1, i, s, m => by
    unfold runZ
    rw [stepX_g]
    simp only
    rw [runZ_g l gs c0 w0 F v g]
    rfl
def outG (l : List Ins) (gs : List Gl) (row cls wt rul fuel : Int) : OutR := outZ l gs row cls wt rul fuel (.bool false)
theorem outZ_g (l : List Ins) (gs : List Gl) (row cls wt rul fuel : Int) (v : Value) : outZ l gs row cls wt rul fuel v = outG l gs row cls wt rul fuel := by
  unfold outG outZ
  by_cases hc : chkS l = 0
  · rw [if_pos hc, if_pos hc]
    exact runZ_g l gs cls wt _ v l.length 0 0 (m0 row (.bool false) cls wt rul)
  · rw [if_neg hc, if_neg hc]
def outT (rul : Int) (o : OutR) : TV := .agg [.int o.c, .int o.w, .int rul, .int (o.s : Nat), .int o.e]
def verT (c w r : Int) : TV := .agg [.int c, .int w, .int r]
def runL : Law := ⟨fun ts => ∃ (l : List Ins) (row : Int) (gs : List Gl) (cls : Int) (wt : Int) (rul : Int) (fuel : Int), ts = [scrT l, .int row, glsT gs, .agg [.int cls, .int wt, .int rul], .int fuel] ∧ (l.length ≤ 1000000 ∧ SmallR gs), fun ts z₀ => ∀ (l : List Ins) (row : Int) (gs : List Gl) (cls : Int) (wt : Int) (rul : Int) (fuel : Int), ts = [scrT l, .int row, glsT gs, .agg [.int cls, .int wt, .int rul], .int fuel] → z₀ = outT rul (outG l gs row cls wt rul fuel)⟩
theorem run_pre {l : List Ins} {row : Int} {gs : List Gl} {cls : Int} {wt : Int} {rul : Int} {fuel : Int} (h : l.length ≤ 1000000 ∧ SmallR gs) : runL.pre [scrT l, .int row, glsT gs, .agg [.int cls, .int wt, .int rul], .int fuel] := ⟨l, row, gs, cls, wt, rul, fuel, rfl, h⟩
theorem z8w {l : List Ins} {row : Int} {gs : List Gl} {cls : Int} {wt : Int} {rul : Int} {fuel : Int} {z₀ : TV} (h : z₀ = outT rul (outG l gs row cls wt rul fuel)) : runL.post [scrT l, .int row, glsT gs, .agg [.int cls, .int wt, .int rul], .int fuel] z₀ := fun l₁ row₁ gs₁ cls₁ wt₁ rul₁ fuel₁ e => by
  simp only [List.cons.injEq, TV.str.injEq, TV.int.injEq, TV.bool.injEq, TV.agg.injEq, TV.list.injEq, zat, and_true, true_and, and_assoc, zzx, scrT_eq] at e; obtain ⟨rfl, rfl, rfl, rfl, rfl, rfl, rfl⟩ := e
  exact h
theorem run_all {l : List Ins} {row : Int} {gs : List Gl} {cls : Int} {wt : Int} {rul : Int} {fuel : Int} {Q : TV → Prop} : (∀ z₀, runL.post [scrT l, .int row, glsT gs, .agg [.int cls, .int wt, .int rul], .int fuel] z₀ → Q z₀) ↔ Q (outT rul (outG l gs row cls wt rul fuel)) := ⟨fun h => h _ (z8w rfl), fun h z₀ hr => by rw [hr _ _ _ _ _ _ _ rfl]; exact h⟩
theorem args5 {w : World} {x0 x1 x2 x3 x4 : Bool × List CT} {t0 t1 t2 t3 t4 : TV} {vs : Array Value} (h : zn2 w [x0, x1, x2, x3, x4] [t0, t1, t2, t3, t4] vs.toList) : ∃ v0 v1 v2 v3 v4, vs = #[v0, v1, v2, v3, v4] ∧ zwk w x0 t0 v0 ∧ zwk w x1 t1 v1 ∧ zwk w x2 t2 v2 ∧ zwk w x3 t3 v3 ∧ zwk w x4 t4 v4 := by
  obtain ⟨v0, vs0, e0, a0, h⟩ := zcl h
  obtain ⟨v1, vs1, rfl, a1, h⟩ := zcl h
  obtain ⟨v2, vs2, rfl, a2, h⟩ := zcl h
  obtain ⟨v3, vs3, rfl, a3, h⟩ := zcl h
  obtain ⟨v4, vs4, rfl, a4, h⟩ := zcl h
  obtain ⟨_, rfl⟩ := zgh h
  refine ⟨v0, v1, v2, v3, v4, ?_, a0, a1, a2, a3, a4⟩
  rcases vs with ⟨l⟩
  simp only at e0
  rw [e0]
theorem arg3 {w : World} {a b c : Int} {v : Value} (h : zwk w (true, [.int .i64, .int .i64, .int .i64]) (.agg [.int a, .int b, .int c]) v) : v = .agg #[.int .i64 a, .int .i64 b, .int .i64 c] := by
  unfold zwk at h
  rw [if_pos rfl] at h
  obtain ⟨q, rfl, h1, h2⟩ := h
  rcases q with ⟨l⟩
  match l, h1 with
  | [x, y, z], _ =>
    obtain ⟨u0, e0, r0⟩ := h2 0 (by simp)
    obtain ⟨u1, e1, r1⟩ := h2 1 (by simp)
    obtain ⟨u2, e2, r2⟩ := h2 2 (by simp)
    simp only [List.getElem?_cons_zero, List.getElem?_cons_succ, Option.some.injEq] at e0 e1 e2
    subst e0 e1 e2
    rw [qn6 r0, qn6 r1, qn6 r2]
    rfl
theorem run_c (k : Nat) : Contract Tryd.prog (mkEnv globT []) gtab (qnc k) runL.pre runL.post := ⟨⟨Tryd.f10, Tryd.f10.body.getD .skip, Tryd.func10, by kernel_rfl, by kernel_rfl⟩, by
  intro w ts vs hG ha hp
  obtain ⟨l, row, gs, cls, wt, rul, fuel, rfl, hl, hg⟩ := hp
  obtain ⟨lv, rv, gv, cv, fv, rfl, ⟨c0, e0, r0⟩, ⟨c1, e1, r1⟩, ⟨c2, e2, r2⟩, a3, ⟨c4, e4, r4⟩⟩ := args5 ha
  cases e0; cases e1; cases e2; cases e4
  obtain rfl := qn6 r1
  obtain rfl := qn6 r4
  obtain rfl := arg3 a3
  refine (run_in hG l gs lv gv row cls wt rul fuel (irow_of r0 hl) (grow_of r2 (by have := hg.1; omega)) (fun g h => by have := hg.2 g h; omega) (qn5 hG r0)).mono ?_
  rintro e w' ⟨rfl, hb⟩
  refine ⟨_, _, fun _ => False, rfl, z8w rfl, hb, fun g hg => hg.elim, ?_⟩
  rw [outZ_g]
  exact ResRep.five _ _ _ _ _⟩

def trueL (pre : List TV → Prop) : Law := ⟨pre, fun _ r => r = .bool true⟩
def dcdT (l : List Ins) (gs : List Gl) (row c w r : Int) : TV :=
  if c = 1 then verT c w r else if l.length = 0 then verT c w r else if depE l = 0 then (if (outG l gs row c w r 5000).c = 3 then verT 3 (outG l gs row c w r 5000).w r else verT (outG l gs row c w r 5000).c 0 r) else verT c w r
def dcdL : Law := ⟨fun ts => ∃ (l : List Ins) (row : Int) (gs : List Gl) (cls : Int) (wt : Int) (rul : Int), ts = [scrT l, .int row, glsT gs, .agg [.int cls, .int wt, .int rul]] ∧ (l.length ≤ 1000000 ∧ SmallR gs), fun ts z₀ => ∀ (l : List Ins) (row : Int) (gs : List Gl) (cls : Int) (wt : Int) (rul : Int), ts = [scrT l, .int row, glsT gs, .agg [.int cls, .int wt, .int rul]] → z₀ = dcdT l gs row cls wt rul⟩
theorem dcd_pre {l : List Ins} {row : Int} {gs : List Gl} {cls : Int} {wt : Int} {rul : Int} (h : l.length ≤ 1000000 ∧ SmallR gs) : dcdL.pre [scrT l, .int row, glsT gs, .agg [.int cls, .int wt, .int rul]] := ⟨l, row, gs, cls, wt, rul, rfl, h⟩
theorem dcd_fin {l : List Ins} {row : Int} {gs : List Gl} {cls : Int} {wt : Int} {rul : Int} {z₀ : TV} (h : z₀ = dcdT l gs row cls wt rul) : dcdL.post [scrT l, .int row, glsT gs, .agg [.int cls, .int wt, .int rul]] z₀ := fun l₁ row₁ gs₁ cls₁ wt₁ rul₁ e => by
  simp only [List.cons.injEq, TV.str.injEq, TV.int.injEq, TV.bool.injEq, TV.agg.injEq, TV.list.injEq, zat, and_true, true_and, and_assoc, zzx, scrT_eq] at e; obtain ⟨rfl, rfl, rfl, rfl, rfl, rfl⟩ := e
  exact h
theorem dcd_all {l : List Ins} {row : Int} {gs : List Gl} {cls : Int} {wt : Int} {rul : Int} {Q : TV → Prop} : (∀ z₀, dcdL.post [scrT l, .int row, glsT gs, .agg [.int cls, .int wt, .int rul]] z₀ → Q z₀) ↔ Q (dcdT l gs row cls wt rul) := ⟨fun h => h _ (dcd_fin rfl), fun h z₀ hr => by rw [hr _ _ _ _ _ _ rfl]; exact h⟩
theorem dcd_c (k : Nat) : Contract Tryd.prog (mkEnv globT []) gtab (qm2 k) dcdL.pre dcdL.post := Contract.env (Γ := mkEnv globT [verL, runL]) (contract_scriptvm_Decide (fun _ => rfl) (fun s hs => by
    simp only [cx_scriptvm_Decide, List.mem_cons, List.not_mem_nil, or_false] at hs
    rcases hs with rfl | rfl
    · exact Contract.inEnv rfl (ver_c 0) rfl
    · exact Contract.inEnv rfl (run_c 1) rfl) k (by
  rintro ts hl ⟨l, row, gs, cls, wt, rul, rfl, hp⟩
  have hfin : ∀ z₀ : TV, z₀ = dcdT l gs row cls wt rul → dcdL.post [scrT l, .int row, glsT gs, .agg [.int cls, .int wt, .int rul]] z₀ := fun z₀ hz₀ => dcd_fin hz₀
  generalize dcdL.post [scrT l, .int row, glsT gs, .agg [.int cls, .int wt, .int rul]] = R at hfin ⊢
  unfold tr_scriptvm_Decide
  unfold dcdT verT at hfin
  simp only [Tree.den, E.den, P1.den, P2.den, P3.den, qa, qb, qc, qd, qe, qf, qg, qh, zac, zab, zad, zaa, zae, TV.cell, zah, zai, zag, zaf, qi, qj, qk, ql, qm, qn, ne_eq, qo, qp, forall_eq, qs, qt, Int.reduceToNat, qu, exists_eq_left', scrT_len, ver_all, run_all, outT]
  refine ⟨fun h1 => hfin _ (by rw [if_pos h1]), fun h1 => ⟨fun h2 => hfin _ (by rw [if_neg h1, if_pos (by omega)]), fun h2 => ⟨ver_pre hp.1, fun h3 => hfin _ (by rw [if_neg h1, if_neg (by omega), if_neg h3]), fun h3 => ⟨run_pre hp, fun h4 => hfin _ (by rw [if_neg h1, if_neg (by omega), if_pos h3, if_neg h4]), fun h4 => hfin _ (by rw [if_neg h1, if_neg (by omega), if_pos h3, if_pos h4, h4])⟩⟩⟩⟩)) rfl
def scrL : Law := ⟨fun ts => ts = [], fun ts z₀ => ts = [] → z₀ = .bool true⟩
theorem scr_pre : scrL.pre [] := rfl
theorem scr_fin {z₀ : TV} (h : z₀ = .bool true) : scrL.post [] z₀ := fun _ => h
theorem scr_all {Q : TV → Prop} : (∀ z₀, scrL.post [] z₀ → Q z₀) ↔ Q (.bool true) := ⟨fun h => h _ fun _ => rfl, fun h z₀ hr => by rw [hr rfl]; exact h⟩
theorem scr_c (k : Nat) : Contract Tryd.prog (mkEnv globT []) gtab (qmj k) scrL.pre scrL.post := Contract.env (Γ := mkEnv globT [verL]) (qnr (fun _ => rfl) (fun s hs => by
    simp only [cx_narratortop_scriptRefused, List.mem_cons, List.not_mem_nil, or_false] at hs
    rcases hs with rfl
    · exact Contract.inEnv rfl (ver_c 0) rfl) k (by
  rintro ts hl rfl
  have hfin : ∀ z₀ : TV, z₀ = .bool true → scrL.post [] z₀ := fun z₀ hz₀ => scr_fin hz₀
  generalize scrL.post [] = R at hfin ⊢
  unfold tr_narratortop_scriptRefused
  have l1 : TV.list [TV.agg [.int 15, .int 0]] = scrT [(15, 0)] := rfl
  have l2 : depE [(15, 0)] = 13 := by decide
  simp only [Tree.den, E.den, P1.den, P2.den, P3.den, qa, qb, qc, qd, qe, qf, qg, qh, zac, zab, zad, zaa, zae, TV.cell, zah, zai, zag, zaf, qi, qj, qk, ql, qm, qn, ne_eq, qo, qp, forall_eq, qs, qt, Int.reduceToNat, qu, exists_eq_left', l1, ver_all, l2]
  exact ⟨ver_pre (by decide), hfin _ rfl⟩)) rfl
end Go.Proofs.YtlhagkbhojmjpaaDoor
