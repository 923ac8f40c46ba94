/- The law of script safety. -/
import Derived.Test.YtlhagkbhojmjpaaDoorVer
namespace Go.Proofs.YtlhagkbhojmjpaaDoor
set_option linter.unusedSimpArgs false
set_option linter.unusedVariables false
set_option linter.unusedSectionVars false
open Go.RowKit

def glOf (us : List TV) : Gl := ⟨(us.getD 0 (.int 0)).asStr, (us.getD 1 (.int 0)).asBool, (us.getD 2 (.int 0)).asInt⟩
theorem OkA.gls {t : TV} (h : OkA false [.slice true [.str, .bool, .int .i64]] t) : ∃ l : List Gl, t = glsT l := by
  obtain ⟨ct, e, h⟩ := h
  simp only [List.cons.injEq, and_true] at e
  subst e
  cases h with
  | rows _ ls h h1 h2 =>
    have key : ∀ us ∈ ls, TV.agg us = glT (glOf us) := fun us hu => by
      have hl := h1 us hu
      have hc := h2 us hu
      match us, hl with
      | [a, b, c], _ =>
        have k0 := hc 0 _ a rfl rfl
        have k1 := hc 1 _ b rfl rfl
        have k2 := hc 2 _ c rfl rfl
        cases k0 with
        | str s hs =>
          cases k1 with
          | bool w =>
            cases k2 with
            | int _ z hz hz' =>
              unfold glT glOf
              simp only [List.getD_cons_zero, List.getD_cons_succ, zab]
              rfl
    refine ⟨ls.map glOf, ?_⟩
    unfold glsT
    rw [List.map_map]
    congr 1
    exact List.map_congr_left key
def inOf (us : List TV) : Ins := ((us.getD 0 (.int 0)).asInt, (us.getD 1 (.int 0)).asInt)
theorem OkA.scr {t : TV} (h : OkA false [.slice true [.int .i64, .int .i64]] t) : ∃ l : List Ins, t = scrT l := by
  obtain ⟨ct, e, h⟩ := h
  simp only [List.cons.injEq, and_true] at e
  subst e
  cases h with
  | rows _ ls h h1 h2 =>
    have key : ∀ us ∈ ls, TV.agg us = insT (inOf us) := fun us hu => by
      have hl := h1 us hu
      have hc := h2 us hu
      match us, hl with
      | [a, b], _ =>
        have k0 := hc 0 _ a rfl rfl
        have k1 := hc 1 _ b rfl rfl
        cases k0 with
        | int _ x hx hx' =>
          cases k1 with
          | int _ z hz hz' =>
            unfold insT inOf
            simp only [List.getD_cons_zero, List.getD_cons_succ]
            rfl
    refine ⟨ls.map inOf, ?_⟩
    unfold scrT
    rw [List.map_map]
    congr 1
    exact List.map_congr_left key
theorem OkA.ver {t : TV} (h : OkA true [.int .i64, .int .i64, .int .i64] t) : ∃ c w r : Int, t = .agg [.int c, .int w, .int r] := by
  obtain ⟨us, rfl, hl, h⟩ := h
  match us, hl with
  | [a, b, c], _ =>
    have k0 : OkA false [.int .i64] a := ⟨_, rfl, h 0 _ a rfl rfl⟩
    have k1 : OkA false [.int .i64] b := ⟨_, rfl, h 1 _ b rfl rfl⟩
    have k2 : OkA false [.int .i64] c := ⟨_, rfl, h 2 _ c rfl rfl⟩
    obtain ⟨a, rfl, _⟩ := k0.int
    obtain ⟨b, rfl, _⟩ := k1.int
    obtain ⟨c, rfl, _⟩ := k2.int
    exact ⟨a, b, c, rfl⟩
open Go Go.Lib in
theorem z7v {l : List (String × DataW Unit)} {W : World} (h : laidMet Tryd.prog l W) (hx : ∃ n, Tryd.prog.globalNamed n = some 0 ∧ (n, (tabData .i64 popsZ : DataW Unit)) ∈ l)
    (hy : ∃ n, Tryd.prog.globalNamed n = some 1 ∧ (n, (tabData .i64 pushZ : DataW Unit)) ∈ l) : GlobOk (mkEnv globT []) gtab W := by
  obtain ⟨n, hn, hl⟩ := hx
  obtain ⟨m, hm, hk⟩ := hy
  intro g ag cs hg
  simp only [gtab, List.mem_cons, List.not_mem_nil, or_false, Prod.mk.injEq] at hg
  rcases hg with ⟨rfl, rfl, rfl⟩ | ⟨rfl, rfl, rfl⟩
  · exact z8f (t := 126) (laidMet.reads h hl) hn (by kernel_rfl) Tryd.underlying126 Tryd.underlying3 (by kernel_rfl) (by kernel_rfl) (by decide) (by decide)
  · exact z8f (t := 126) (laidMet.reads h hk) hm (by kernel_rfl) Tryd.underlying126 Tryd.underlying3 (by kernel_rfl) (by kernel_rfl) (by decide) (by decide)

theorem dcd_rule {l : List Ins} {gs : List Gl} {row c w r : Int} : ∃ c' w', dcdT l gs row c w r = .agg [.int c', .int w', .int r] ∧ (c = 1 → c' = c ∧ w' = w) := by
  unfold dcdT verT
  by_cases h1 : c = 1
  · rw [if_pos h1]; exact ⟨c, w, rfl, fun _ => ⟨rfl, rfl⟩⟩
  rw [if_neg h1]
  by_cases h2 : l.length = 0
  · rw [if_pos h2]; exact ⟨c, w, rfl, fun _ => ⟨rfl, rfl⟩⟩
  rw [if_neg h2]
  by_cases h3 : depE l = 0
  · rw [if_pos h3]
    split
    · exact ⟨_, _, rfl, fun h => absurd h h1⟩
    · exact ⟨_, _, rfl, fun h => absurd h h1⟩
  · rw [if_neg h3]; exact ⟨c, w, rfl, fun _ => ⟨rfl, rfl⟩⟩
def safP (ts : List TV) : Prop := ∃ (l : List Ins) (row : Int) (gs : List Gl) (c w r : Int), ts = [scrT l, .int row, glsT gs, .agg [.int c, .int w, .int r]]
theorem safP_of {t0 t1 t2 t3 : TV} (h0 : OkA false [.slice true [.int .i64, .int .i64]] t0) (h1 : OkA false [.int .i64] t1) (h2 : OkA false [.slice true [.str, .bool, .int .i64]] t2) (h3 : OkA true [.int .i64, .int .i64, .int .i64] t3) : safP [t0, t1, t2, t3] := by
  obtain ⟨l, rfl⟩ := h0.scr
  obtain ⟨x, rfl, _⟩ := h1.int
  obtain ⟨gs, rfl⟩ := h2.gls
  obtain ⟨c, w, r, rfl⟩ := h3.ver
  exact ⟨l, x, gs, c, w, r, rfl⟩
theorem lawSafety_c (k : Nat) : Contract Tryd.prog (mkEnv globT []) gtab (qmr k) (trueL safP).pre (trueL safP).post := Contract.env (Γ := mkEnv globT [smaL, verL, fueL, scrL, runL, dcdL]) (qnm (fun _ => rfl) (fun s hs => by
    simp only [cx_narratortop_TopScriptSafety, List.mem_cons, List.not_mem_nil, or_false] at hs
    rcases hs with rfl | rfl | rfl | rfl | rfl | rfl
    · exact Contract.inEnv rfl (sma_c 0) rfl
    · exact Contract.inEnv rfl (ver_c 1) rfl
    · exact Contract.inEnv rfl (fue_c 2) rfl
    · exact Contract.inEnv rfl (scr_c 3) rfl
    · exact Contract.inEnv rfl (run_c 4) rfl
    · exact Contract.inEnv rfl (dcd_c 5) rfl) k (by
  rintro ts hl ⟨l, row, gs, c, w, r, rfl⟩
  unfold tr_narratortop_TopScriptSafety
  cases hsm : smaB l gs with
  | false =>
    simp only [Tree.den, E.den, P1.den, P2.den, P3.den, qa, qb, qc, qd, qe, qf, qg, qh, zac, zab, zad, zaa, zae, TV.cell, zah, zai, zag, zaf, qi, qj, qk, ql, qm, qn, ne_eq, qo, qp, forall_eq, qs, qt, Int.reduceToNat, qu, exists_eq_left', sma_all, scr_all, hsm]
    exact ⟨sma_pre trivial, fun _ => ⟨scr_pre, rfl⟩, fun hh => absurd hh (by simp)⟩
  | true =>
    have hsm' := hsm
    unfold smaB at hsm'
    simp only [Bool.and_eq_true, Bool.not_eq_true', decide_eq_true_eq] at hsm'
    obtain ⟨h100, hg⟩ := hsm'
    have hs := small_row hg
    have hl6 : l.length ≤ 1000000 := by omega
    by_cases hv : depE l = 0
    · have hc := (depE_zero hv).1
      obtain ⟨a, b, d⟩ := safe_law hv (by omega) gs row c w r (.bool false)
      have hf := fuelZ_le l
      change (outG l gs row c w r (fuelZ l)).e = 0 at a
      change ((outG l gs row c w r (fuelZ l)).s : Int) ≤ fuelZ l at b
      change 0 < (outG l gs row c w r (fuelZ l)).s → outG l gs row c w r (((outG l gs row c w r (fuelZ l)).s : Int) - 1) = ⟨c, w, (outG l gs row c w r (fuelZ l)).s - 1, 14⟩ at d
      obtain ⟨s, hs'⟩ : ∃ s, (outG l gs row c w r (fuelZ l)).s = s := ⟨_, rfl⟩
      rw [hs'] at b d
      obtain ⟨c', w', hd, hu⟩ := dcd_rule (l := l) (gs := gs) (row := row) (c := c) (w := w) (r := r)
      have e1 : IntKind.wrap .i64 ((s : Int) - 1) = (s : Int) - 1 := wrap_i64 (by omega) (by omega)
      have n1 : ¬ 5000 < fuelZ l := by omega
      have n2 : ¬ fuelZ l < s := by omega
      have p1 : ∀ x, runL.pre [scrT l, .int row, glsT gs, .agg [.int c, .int w, .int r], .int x] := fun x => run_pre ⟨hl6, hs⟩
      have p2 : dcdL.pre [scrT l, .int row, glsT gs, .agg [.int c, .int w, .int r]] := dcd_pre ⟨hl6, hs⟩
      have p3 := sma_pre (l := l) (g := gs) trivial
      have p4 := ver_pre (l := l) hl6
      have p5 := fue_pre (l := l) ⟨hc, by omega⟩
      have p6 := scr_pre
      have en : (trueL safP).post [scrT l, .int row, glsT gs, .agg [.int c, .int w, .int r]] (.bool true) := rfl
      have hcw : (¬ c = 1) ∨ (c = 1 ∧ c' = 1 ∧ w' = w) := by
        by_cases h : c = 1
        · exact .inr ⟨h, (hu h).1.trans h, (hu h).2⟩
        · exact .inl h
      by_cases hs0 : 0 < s
      · have dd := d hs0
        have e2 : ((s - 1 : Nat) : Int) = (s : Int) - 1 := by omega
        have s0 : (0 : Int) < s := by omega
        rcases hcw with h1 | ⟨rfl, rfl, rfl⟩
        · simp only [Tree.den, E.den, P1.den, P2.den, P3.den, qa, qb, qc, qd, qe, qf, qg, qh, zac, zab, zad, zaa, zae, TV.cell, zah, zai, zag, zaf, qi, qj, qk, ql, qm, qn, ne_eq, qo, qp, forall_eq, qs, qt, Int.reduceToNat, qu, exists_eq_left', sma_all, ver_all, fue_all, run_all, dcd_all, scr_all, hsm, outT, hv, hs', a, hd, e1, dd, e2, s0, n1, n2, p1, p2, p3, p4, p5, p6, en, h1, if_true, true_implies, false_implies, not_true_eq_false, not_false_eq_true, and_true, true_and, reduceCtorEq]
        · simp only [Tree.den, E.den, P1.den, P2.den, P3.den, qa, qb, qc, qd, qe, qf, qg, qh, zac, zab, zad, zaa, zae, TV.cell, zah, zai, zag, zaf, qi, qj, qk, ql, qm, qn, ne_eq, qo, qp, forall_eq, qs, qt, Int.reduceToNat, qu, exists_eq_left', sma_all, ver_all, fue_all, run_all, dcd_all, scr_all, hsm, outT, hv, hs', a, hd, e1, dd, e2, s0, n1, n2, p1, p2, p3, p4, p5, p6, en, if_true, true_implies, false_implies, not_true_eq_false, not_false_eq_true, and_true, true_and, reduceCtorEq]
      · have s0 : ¬ (0 : Int) < s := by omega
        rcases hcw with h1 | ⟨rfl, rfl, rfl⟩
        · simp only [Tree.den, E.den, P1.den, P2.den, P3.den, qa, qb, qc, qd, qe, qf, qg, qh, zac, zab, zad, zaa, zae, TV.cell, zah, zai, zag, zaf, qi, qj, qk, ql, qm, qn, ne_eq, qo, qp, forall_eq, qs, qt, Int.reduceToNat, qu, exists_eq_left', sma_all, ver_all, fue_all, run_all, dcd_all, scr_all, hsm, outT, hv, hs', a, hd, e1, s0, n1, n2, p1, p2, p3, p4, p5, p6, en, h1, if_true, true_implies, false_implies, not_true_eq_false, not_false_eq_true, and_true, true_and, reduceCtorEq]
        · simp only [Tree.den, E.den, P1.den, P2.den, P3.den, qa, qb, qc, qd, qe, qf, qg, qh, zac, zab, zad, zaa, zae, TV.cell, zah, zai, zag, zaf, qi, qj, qk, ql, qm, qn, ne_eq, qo, qp, forall_eq, qs, qt, Int.reduceToNat, qu, exists_eq_left', sma_all, ver_all, fue_all, run_all, dcd_all, scr_all, hsm, outT, hv, hs', a, hd, e1, s0, n1, n2, p1, p2, p3, p4, p5, p6, en, if_true, true_implies, false_implies, not_true_eq_false, not_false_eq_true, and_true, true_and, reduceCtorEq]
    · simp only [Tree.den, E.den, P1.den, P2.den, P3.den, qa, qb, qc, qd, qe, qf, qg, qh, zac, zab, zad, zaa, zae, TV.cell, zah, zai, zag, zaf, qi, qj, qk, ql, qm, qn, ne_eq, qo, qp, forall_eq, qs, qt, Int.reduceToNat, qu, exists_eq_left', sma_all, scr_all, ver_all, hsm]
      exact ⟨sma_pre trivial, fun hh => hh.elim, fun _ => ⟨ver_pre hl6, fun _ => ⟨scr_pre, rfl⟩, fun hh => absurd hh hv⟩⟩)) rfl
end Go.Proofs.YtlhagkbhojmjpaaDoor
