/- The law of script concealment, by the symbolic run. -/
import Derived.Test.YtlhagkbhojmjpaaDoorKi
namespace Go.Proofs.YtlhagkbhojmjpaaDoor
set_option linter.unusedSimpArgs false
set_option linter.unusedVariables false
set_option linter.unusedSectionVars false
open Go.RowKit
def zlOf (us : List TV) : Zl := ⟨(us.getD 0 (.int 0)).asStr, (us.getD 1 (.int 0)).asInt, (us.getD 2 (.int 0)).asInt, (us.getD 3 (.int 0)).asInt, (us.getD 4 (.int 0)).asInt⟩
theorem OkA.cls {t : TV} (h : OkA false [.slice true [.str, .int .i64, .int .i64, .int .i64, .int .i64]] t) : ∃ l : List Zl, t = clsT l := by
  obtain ⟨ct, e, h⟩ := h
  simp only [List.cons.injEq, and_true] at e
  subst e
  cases h with
  | rows _ ls h h1 h2 =>
    have key : ∀ us ∈ ls, TV.agg us = clT (zlOf us) := fun us hu => by
      have hl := h1 us hu
      have hc := h2 us hu
      match us, hl with
      | [a, b, c, d, e], _ =>
        have k0 := hc 0 _ a rfl rfl
        have k1 := hc 1 _ b rfl rfl
        have k2 := hc 2 _ c rfl rfl
        have k3 := hc 3 _ d rfl rfl
        have k4 := hc 4 _ e rfl rfl
        cases k0 with
        | str s hs =>
          cases k1 with
          | int _ z1 _ _ =>
            cases k2 with
            | int _ z2 _ _ =>
              cases k3 with
              | int _ z3 _ _ =>
                cases k4 with
                | int _ z4 _ _ => rfl
    refine ⟨ls.map zlOf, ?_⟩
    unfold clsT
    rw [List.map_map]
    congr 1
    exact List.map_congr_left key
theorem OkT.rws {t : TV} (h : OkT (.slice false [.slice true [.str, .int .i64, .int .i64, .int .i64, .int .i64]]) t) : ∃ rows, t = rwsT rows := by
  cases h with
  | row _ l _ h' =>
    have key : ∀ x ∈ l, ∃ g, x = clsT g := fun x hx => OkA.cls (t := x) ⟨_, rfl, h' x hx⟩
    have : ∀ l : List TV, (∀ x ∈ l, ∃ g, x = clsT g) → ∃ rows : List (List Zl), l = rows.map clsT := by
      intro l
      induction l with
      | nil => intro _; exact ⟨[], rfl⟩
      | cons x l ih =>
        intro h
        obtain ⟨g, rfl⟩ := h x List.mem_cons_self
        obtain ⟨rows, rfl⟩ := ih fun y hy => h y (List.mem_cons_of_mem _ hy)
        exact ⟨g :: rows, rfl⟩
    obtain ⟨rows, rfl⟩ := this l key
    exact ⟨rows, rfl⟩
theorem OkA.term {t : TV} (h : OkA true tmA t) : TermOk t := by
  obtain ⟨us, rfl, hl, h⟩ := h
  have g : ∀ i, i < 42 → us[i]? = some (us.getD i (.int 0)) := fun i hi => by
    rw [List.getD_eq_getElem?_getD, List.getElem?_eq_getElem (by rw [hl]; exact hi)]
    rfl
  have k2 := h 2 _ _ rfl (g 2 (by decide))
  obtain ⟨rows, hr⟩ := OkT.rws k2
  have k0 : OkA false [.int .i64] (us.getD 0 (.int 0)) := ⟨_, rfl, h 0 _ _ rfl (g 0 (by decide))⟩
  have k1 : OkA false [.int .i64] (us.getD 1 (.int 0)) := ⟨_, rfl, h 1 _ _ rfl (g 1 (by decide))⟩
  obtain ⟨z0, e0, _⟩ := k0.int
  obtain ⟨z1, e1, _⟩ := k1.int
  refine ⟨⟨us, rfl, hl⟩, ?_, ?_, ?_⟩
  · show us.getD 2 (.int 0) = rwsT (rwsOf (us.getD 2 (.int 0)))
    rw [hr, rwsOf_T]
  · show us.getD 0 (.int 0) = .int (us.getD 0 (.int 0)).asInt
    rw [e0]; rfl
  · show us.getD 1 (.int 0) = .int (us.getD 1 (.int 0)).asInt
    rw [e1]; rfl
def mixL (n w : List UInt8) (l : List Zl) (k : Nat) : List Zl := conL n w (l.take k) ++ l.drop k
theorem mix_len (n w : List UInt8) {l : List Zl} {k : Nat} (h : k ≤ l.length) : (mixL n w l k).length = l.length := by
  unfold mixL conL
  rw [List.length_append, List.length_map, List.length_take, List.length_drop]
  omega
theorem mix_get (n w : List UInt8) {l : List Zl} {k : Nat} (h : k < l.length) : cc (mixL n w l k) k = cc l k := by
  have hl : (conL n w (l.take k)).length = k := by unfold conL; rw [List.length_map, List.length_take]; omega
  unfold cc mixL
  rw [List.getD_eq_getElem?_getD, List.getElem?_append_right (by omega), hl, Nat.sub_self, List.getElem?_drop, Nat.add_zero, ← List.getD_eq_getElem?_getD]
theorem mix_step (n w : List UInt8) {l : List Zl} {k : Nat} (h : k < l.length) : mixL n w l (k + 1) = (mixL n w l k).set k (conC n w (cc l k)) := by
  have hl : (conL n w (l.take k)).length = k := by unfold conL; rw [List.length_map, List.length_take]; omega
  have e1 : l.take (k + 1) = l.take k ++ [cc l k] := by
    rw [List.take_add_one, List.getElem?_eq_getElem h]
    unfold cc
    rw [List.getD_eq_getElem?_getD, List.getElem?_eq_getElem h]
    rfl
  unfold mixL
  rw [cls_drop h, List.set_append_right _ _ (by omega), hl, Nat.sub_self, List.set_cons_zero, e1]
  unfold conL
  rw [List.map_append, List.append_assoc]
  rfl
theorem mix_same (n w : List UInt8) {l : List Zl} {k : Nat} (h : k < l.length) (he : conC n w (cc l k) = cc l k) : mixL n w l (k + 1) = mixL n w l k := by
  rw [mix_step n w h, he]
  have hm := mix_get n w h
  have hlen := mix_len n w (Nat.le_of_lt h)
  unfold cc at hm
  rw [List.getD_eq_getElem?_getD, List.getElem?_eq_getElem (by omega)] at hm
  unfold cc
  rw [← hm]
  exact List.set_getElem_self _
theorem mix_full (n w : List UInt8) (l : List Zl) : mixL n w l l.length = conL n w l := by
  unfold mixL
  rw [List.take_length, List.drop_length, List.append_nil]
theorem set_tv (m : List Zl) (k : Nat) (c : Zl) (s : List UInt8) : TV.list ((m.map clT).set k (TV.agg (List.map (fun j => if j = 0 then TV.str s else (clT c).cells.getD j (.int 0)) (List.range 5)))) = clsT (m.set k { c with s := s }) := by
  unfold clsT
  rw [List.map_set]
  rfl
theorem clT_g (c : Zl) : ((clT c).cells.getD 4 (.int 0)).asInt = c.g := rfl
theorem clT_w (c : Zl) : ((clT c).cells.getD 1 (.int 0)).asInt = c.w := rfl
theorem grm_2 (m k : Nat) (x : TV) : Grm m [.int (k : Int), x] = m - k := congrArg (m - ·) (Int.toNat_natCast k)
def IcI (n w : List UInt8) (l : List Zl) (xs : List TV) : Prop := ∃ k : Nat, xs = [.int k, clsT (mixL n w l k)] ∧ k ≤ l.length
def TcI (R : List (List Zl)) (xs : List TV) : Prop := ∃ i : Nat, xs = [.int i] ∧ i ≤ R.length
def OcI (n w : List UInt8) (R : List (List Zl)) (xs : List TV) : Prop := ∃ i : Nat, xs = [.int i, rwsT ((R.take i).map (conL n w))] ∧ i ≤ R.length
theorem rws_snoc {n w : List UInt8} {R : List (List Zl)} {i : Nat} (h : i < R.length) : TV.list ((rwsT ((R.take i).map (conL n w))).asList ++ [clsT (conL n w (rw' R i))]) = rwsT ((R.take (i + 1)).map (conL n w)) := by
  have e : R.take (i + 1) = R.take i ++ [rw' R i] := by
    rw [List.take_add_one, List.getElem?_eq_getElem h]
    unfold rw'
    rw [List.getD_eq_getElem?_getD, List.getElem?_eq_getElem h]
    rfl
  rw [e, List.map_append, qpo]
  unfold rwsT
  rw [List.map_append]
  rfl
theorem views_get {R : List (List Zl)} {i : Nat} (h : i < R.length) : (R.map fun l => glsT (viewR l)).getD i (.int 0) = glsT (viewR (rw' R i)) := by
  unfold rw'
  rw [List.getD_eq_getElem?_getD, List.getElem?_map, List.getD_eq_getElem?_getD, List.getElem?_eq_getElem h]
  rfl
def conP (ts : List TV) : Prop := ∃ (l : List Ins) (t : TV) (n w : List UInt8) (c wt r : Int), ts = [scrT l, t, .str n, .str w, .agg [.int c, .int wt, .int r]] ∧ TermOk t
theorem conP_of {t0 t1 t2 t3 t4 : TV} (h0 : OkA false [.slice true [.int .i64, .int .i64]] t0) (h1 : OkA true tmA t1) (h2 : OkA false [.str] t2) (h3 : OkA false [.str] t3) (h4 : OkA true [.int .i64, .int .i64, .int .i64] t4) : conP [t0, t1, t2, t3, t4] := by
  obtain ⟨l, rfl⟩ := h0.scr
  obtain ⟨n, rfl, _⟩ := h2.str
  obtain ⟨w, rfl, _⟩ := h3.str
  obtain ⟨c, wt, r, rfl⟩ := h4.ver
  exact ⟨l, t1, n, w, c, wt, r, rfl, h1.term⟩
theorem lawConceal_c (k : Nat) : Contract Tryd.prog (mkEnv globT []) gtabU (qob k) (trueL conP).pre (trueL conP).post := Contract.env (Γ := mkEnv globT [cwidthL, dcdL, scrL, lgL, rshoL, pofL]) (qoy (fun _ => rfl) (fun s hs => by
    simp only [cx_narratortop_TopScriptConcealment, List.mem_cons, List.not_mem_nil, or_false] at hs
    rcases hs with rfl | rfl | rfl | rfl | rfl | rfl
    · exact Contract.inEnv rfl (cwidth_c 0) rfl
    · exact Contract.inEnv rfl ((dcd_c 1).gt za3) rfl
    · exact Contract.inEnv rfl ((scr_c 2).gt za3) rfl
    · exact Contract.inEnv rfl (lg_c 3) rfl
    · exact Contract.inEnv rfl (rsho_c 4) rfl
    · exact Contract.inEnv rfl (pof_c 5) rfl) k (by
  rintro ts hl ⟨l, t, n, w, c, wt, r, rfl, ht⟩
  unfold tr_narratortop_TopScriptConcealment
  have et := tm_eta ht
  have en : (trueL conP).post [scrT l, t, .str n, .str w, .agg [.int c, .int wt, .int r]] (.bool true) := rfl
  obtain ⟨R, hR⟩ : ∃ R, rowsQ t = R := ⟨_, rfl⟩
  have hrows : t.cells.getD 2 (.int 0) = rwsT R := by rw [← hR]; exact ht.r
  by_cases h100 : 100 < (l.length : Int)
  · simp only [Tree.den, E.den, P1.den, P2.den, P3.den, qa, qb, qc, qd, qe, qf, qg, qh, zac, zab, zad, zaa, zae, TV.cell, zah, zai, zag, zaf, qi, qj, qk, ql, qm, qn, ne_eq, qo, qp, forall_eq, qs, qt, Int.reduceToNat, qu, exists_eq_left', scrT_len, scr_all, h100, scr_pre, en, true_implies, not_true_eq_false, false_implies, and_true]
  cases hlg : largeB R with
  | true =>
    simp only [Tree.den, E.den, P1.den, P2.den, P3.den, qa, qb, qc, qd, qe, qf, qg, qh, zac, zab, zad, zaa, zae, TV.cell, zah, zai, zag, zaf, qi, qj, qk, ql, qm, qn, ne_eq, qo, qp, forall_eq, qs, qt, Int.reduceToNat, qu, exists_eq_left', et, scrT_len, lg_all, scr_all, hR, hlg, h100, scr_pre, en, lg_pre ht, true_implies, not_true_eq_false, not_false_eq_true, false_implies, and_true, true_and, reduceCtorEq]
  | false =>
    have hsm := large_of hlg
    have hmod := small_mod hsm
    have p1 := lg_pre ht
    have p2 : rshoL.pre [t] := rsho_pre ⟨ht, by rw [hR]; exact hmod.txt⟩
    cases hsh : showQ t with
    | false =>
      simp only [Tree.den, E.den, P1.den, P2.den, P3.den, qa, qb, qc, qd, qe, qf, qg, qh, zac, zab, zad, zaa, zae, TV.cell, zah, zai, zag, zaf, qi, qj, qk, ql, qm, qn, ne_eq, qo, qp, forall_eq, qs, qt, Int.reduceToNat, qu, exists_eq_left', et, scrT_len, lg_all, rsho_all, scr_all, hR, hlg, hsh, h100, scr_pre, en, p1, p2, true_implies, not_true_eq_false, not_false_eq_true, false_implies, and_true, true_and, reduceCtorEq]
    | true =>
      by_cases h40 : 40 < (n.length : Int)
      · simp only [Tree.den, E.den, P1.den, P2.den, P3.den, qa, qb, qc, qd, qe, qf, qg, qh, zac, zab, zad, zaa, zae, TV.cell, zah, zai, zag, zaf, qi, qj, qk, ql, qm, qn, ne_eq, qo, qp, forall_eq, qs, qt, Int.reduceToNat, qu, exists_eq_left', et, scrT_len, lg_all, rsho_all, scr_all, hR, hlg, hsh, h100, h40, scr_pre, en, p1, p2, true_implies, not_true_eq_false, not_false_eq_true, false_implies, and_true, true_and, reduceCtorEq]
      by_cases h41 : 40 < (w.length : Int)
      · simp only [Tree.den, E.den, P1.den, P2.den, P3.den, qa, qb, qc, qd, qe, qf, qg, qh, zac, zab, zad, zaa, zae, TV.cell, zah, zai, zag, zaf, qi, qj, qk, ql, qm, qn, ne_eq, qo, qp, forall_eq, qs, qt, Int.reduceToNat, qu, exists_eq_left', et, scrT_len, lg_all, rsho_all, scr_all, hR, hlg, hsh, h100, h40, h41, scr_pre, en, p1, p2, true_implies, not_true_eq_false, not_false_eq_true, false_implies, and_true, true_and, reduceCtorEq]
      have p3 : cwidthL.pre [.str n] := z2z (by omega)
      have p4 : cwidthL.pre [.str w] := z2z (by omega)
      by_cases hn : zc7 n = 1
      · by_cases hw : zc7 w = 2
        · have hNW : NW n w := ⟨hn, hw⟩
          have et2 : uT t (rwsT R) = t := by rw [← hrows]; exact et
          simp only [Tree.den, E.den, P1.den, P2.den, P3.den, qa, qb, qc, qd, qe, qf, qg, qh, zac, zab, zad, zaa, zae, TV.cell, zah, zai, zag, zaf, qi, qj, qk, ql, qm, qn, ne_eq, qo, qp, forall_eq, qs, qt, Int.reduceToNat, qu, exists_eq_left', uT_eta, et2, scrT_len, lg_all, rsho_all, scr_all, z3x, hR, hlg, hsh, h100, h40, h41, hn, hw, scr_pre, en, p1, p2, p3, p4, hrows, rwsT_len, true_implies, not_true_eq_false, not_false_eq_true, false_implies, and_true, true_and, reduceCtorEq]
          refine ⟨OcI n w R, Grm R.length, ⟨0, rfl, Nat.zero_le _⟩, ?_⟩
          rintro xs _ ⟨i, rfl, hi⟩
          by_cases hin : i < R.length
          · have hrow := hsm.2 _ (rw_mem hin)
            have hg := rws_get hin
            obtain ⟨l0, hl0⟩ : ∃ l0, rw' R i = l0 := ⟨_, rfl⟩
            rw [hl0] at hrow hg
            have i0 : (0 : Int) ≤ (i : Nat) := by omega
            have i1 : ((i : Nat) : Int) < (R.length : Nat) := by omega
            have i2 : ((l0.length : Nat) : Int) ≤ 1099511627776 := by omega
            have hcl : TV.list (l0.map clT) = clsT l0 := rfl
            simp only [Tree.den, E.den, P1.den, P2.den, P3.den, qa, qb, qc, qd, qe, qf, qg, qh, zac, zab, zad, zaa, zae, TV.cell, zah, zai, zag, zaf, qi, qj, qk, ql, qm, qn, ne_eq, qo, qp, forall_eq, qs, qt, Int.reduceToNat, qu, exists_eq_left', zaj, zao, zaq, zan, zap, zam, zal, zar, qv, qq, qr, zak, List.cons_append, List.nil_append, Int.toNat_natCast, qpo, List.length_map, hg, qpn, i0, i1, i2, hcl, true_and, true_implies, not_true_eq_false, false_implies, and_true]
            refine ⟨IcI n w l0, Grm l0.length, ⟨0, rfl, Nat.zero_le _⟩, ?_⟩
            rintro xs _ ⟨k, rfl, hk⟩
            have e3 : IntKind.wrap .i64 ((i : Int) + 1) = ((i + 1 : Nat) : Int) := by rw [wrap_i64 (by omega) (by omega)]; omega
            by_cases hkl : k < l0.length
            · have e1 : IntKind.wrap .i64 ((k : Int) + 1) = ((k + 1 : Nat) : Int) := by rw [wrap_i64 (by omega) (by omega)]; omega
              have hm := mix_len n w (l := l0) hk
              have hgm : ((mixL n w l0 k).map clT).getD k (.int 0) = clT (cc l0 k) := by rw [cls_get (by omega), mix_get n w hkl]
              have hms := mix_step n w hkl
              have hsame := mix_same n w (l := l0) (k := k) hkl
              obtain ⟨c0, hc0⟩ : ∃ c0, cc l0 k = c0 := ⟨_, rfl⟩
              rw [hc0] at hgm hms hsame
              simp only [Tree.den, E.den, P1.den, P2.den, P3.den, qa, qb, qc, qd, qe, qf, qg, qh, zac, zab, zad, zaa, zae, TV.cell, zah, zai, zag, zaf, qi, qj, qk, ql, qm, qn, ne_eq, qo, qp, forall_eq, qs, qt, Int.reduceToNat, qu, exists_eq_left', zaj, zao, zaq, zan, zap, zam, zal, zar, qv, qq, qr, zak, List.cons_append, List.nil_append, Int.toNat_natCast, qpn, List.length_map, hm, hgm, clT_g, clT_w, set_tv, e1, grm_2]
              refine ⟨fun _ => ⟨by omega, by omega, fun h0 => ⟨⟨k + 1, by rw [hsame (by unfold conC; exact if_pos h0)], by omega⟩, by omega⟩, fun h0 => ⟨by omega, by omega, fun h1 => ⟨by omega, by omega, ⟨k + 1, by rw [hms, show conC n w c0 = { c0 with s := n } by unfold conC; rw [if_neg (show ¬ andI c0.g 64 = 0 from h0), if_pos h1]], by omega⟩, by omega⟩, fun h1 => ⟨fun h2 => ⟨by omega, by omega, ⟨k + 1, by rw [hms, show conC n w c0 = { c0 with s := w } by unfold conC; rw [if_neg (show ¬ andI c0.g 64 = 0 from h0), if_neg h1, if_pos h2]], by omega⟩, by omega⟩, fun h2 => ⟨⟨k + 1, by rw [hsame (by unfold conC; rw [if_neg (show ¬ andI c0.g 64 = 0 from h0), if_neg h1, if_neg h2])], by omega⟩, by omega⟩⟩⟩⟩, fun hh => absurd hh (by omega)⟩
            · obtain rfl : k = l0.length := by omega
              have hm := mix_len n w (l := l0) (Nat.le_refl _)
              have hsn := rws_snoc (n := n) (w := w) hin
              rw [hl0] at hsn
              simp only [Tree.den, E.den, P1.den, P2.den, P3.den, qa, qb, qc, qd, qe, qf, qg, qh, zac, zab, zad, zaa, zae, TV.cell, zah, zai, zag, zaf, qi, qj, qk, ql, qm, qn, ne_eq, qo, qp, forall_eq, qs, qt, Int.reduceToNat, qu, exists_eq_left', zaj, zao, zaq, zan, zap, zam, zal, zar, qv, qq, qr, zak, List.cons_append, List.nil_append, Int.toNat_natCast, qpn, List.length_map, hm, mix_full, hsn, e3, grm_2]
              have hcl2 : (conL n w l0).length = l0.length := List.length_map _
              refine ⟨fun hh => absurd hh (by rw [hcl2]; omega), fun _ => ⟨?_, ⟨i + 1, congrArg (fun x => [TV.int ((i + 1 : Nat) : Int), x]) hsn, by omega⟩, by omega⟩⟩
              simp only [qpo, List.length_map, List.length_take, List.length_append, List.length_cons, List.length_nil]
              omega
          · obtain rfl : i = R.length := by omega
            have hRt : R.take R.length = R := List.take_length
            have hot := of_t hsh
            have hou := of_u hNW hsh
            unfold seen at hot hou
            rw [hR] at hot hou
            have p5 : pofL.pre [t] := pof_pre ⟨ht, by rw [hR]; exact hmod⟩
            have p6 : pofL.pre [uT t (rwsT (R.map (conL n w)))] := pof_pre ⟨uT_ok ht _, by
              rw [uT_rows]
              refine small_mod ⟨by rw [List.length_map]; exact hsm.1, fun l hl => ?_⟩
              obtain ⟨m, hm, rfl⟩ := List.mem_map.1 hl
              exact con_small (by omega) (by omega) (hsm.2 m hm)⟩
            have hlt : ¬ ((R.length : Nat) : Int) < (R.length : Nat) := by omega
            simp only [Tree.den, E.den, P1.den, P2.den, P3.den, qa, qb, qc, qd, qe, qf, qg, qh, zac, zab, zad, zaa, zae, TV.cell, zah, zai, zag, zaf, qi, qj, qk, ql, qm, qn, ne_eq, qo, qp, forall_eq, qs, qt, Int.reduceToNat, qu, exists_eq_left', zaj, zao, zaq, zan, zap, zam, zal, zar, qv, qq, qr, zak, List.cons_append, List.nil_append, hRt, hlt, p5, p6, pof_all, hot, hou, true_implies, not_true_eq_false, not_false_eq_true, false_implies, and_true, true_and, and_self, reduceCtorEq]
            refine ⟨TcI R, Grm R.length, ⟨0, rfl, Nat.zero_le _⟩, ?_⟩
            rintro xs _ ⟨i, rfl, hi⟩
            by_cases hin : i < R.length
            · have e1 : IntKind.wrap .i64 ((i : Int) + 1) = ((i + 1 : Nat) : Int) := by rw [wrap_i64 (by omega) (by omega)]; omega
              have i0 : (0 : Int) ≤ (i : Nat) := by omega
              have i1 : ((i : Nat) : Int) < (R.length : Nat) := by omega
              have hg := views_get hin
              have hrow := hsm.2 _ (rw_mem hin)
              obtain ⟨gs, hgs⟩ : ∃ gs, viewR (rw' R i) = gs := ⟨_, rfl⟩
              have hvs := view_small hrow
              rw [hgs] at hg hvs
              have p7 : dcdL.pre [scrT l, .int (i : Nat), glsT gs, .agg [.int c, .int wt, .int r]] := dcd_pre ⟨by omega, hvs⟩
              obtain ⟨c', w', hd, _⟩ := dcd_rule (l := l) (gs := gs) (row := (i : Nat)) (c := c) (w := wt) (r := r)
              simp only [Tree.den, E.den, P1.den, P2.den, P3.den, qa, qb, qc, qd, qe, qf, qg, qh, zac, zab, zad, zaa, zae, TV.cell, zah, zai, zag, zaf, qi, qj, qk, ql, qm, qn, ne_eq, qo, qp, forall_eq, qs, qt, Int.reduceToNat, qu, exists_eq_left', zaj, zao, zaq, zan, zap, zam, zal, zar, qv, qq, qr, zak, List.cons_append, List.nil_append, Int.toNat_natCast, hg, p7, dcd_all, hd, e1, i0, i1, grm_i, if_true, true_implies, not_true_eq_false, not_false_eq_true, false_implies, and_true, true_and, reduceCtorEq]
              exact ⟨⟨i + 1, rfl, by omega⟩, by omega⟩
            · obtain rfl : i = R.length := by omega
              simp only [Tree.den, E.den, P1.den, P2.den, P3.den, qa, qb, qc, qd, qe, qf, qg, qh, zac, zab, zad, zaa, zae, TV.cell, zah, zai, zag, zaf, qi, qj, qk, ql, qm, qn, ne_eq, qo, qp, forall_eq, qs, qt, Int.reduceToNat, qu, exists_eq_left', zaj, zao, zaq, zan, zap, zam, zal, zar, qv, qq, qr, zak, List.cons_append, List.nil_append, hlt, true_implies, not_true_eq_false, not_false_eq_true, false_implies, and_true, true_and, reduceCtorEq]
              exact en
        · simp only [Tree.den, E.den, P1.den, P2.den, P3.den, qa, qb, qc, qd, qe, qf, qg, qh, zac, zab, zad, zaa, zae, TV.cell, zah, zai, zag, zaf, qi, qj, qk, ql, qm, qn, ne_eq, qo, qp, forall_eq, qs, qt, Int.reduceToNat, qu, exists_eq_left', et, scrT_len, lg_all, rsho_all, scr_all, z3x, hR, hlg, hsh, h100, h40, h41, hn, hw, scr_pre, en, p1, p2, p3, p4, true_implies, not_true_eq_false, not_false_eq_true, false_implies, and_true, true_and, reduceCtorEq]
      · simp only [Tree.den, E.den, P1.den, P2.den, P3.den, qa, qb, qc, qd, qe, qf, qg, qh, zac, zab, zad, zaa, zae, TV.cell, zah, zai, zag, zaf, qi, qj, qk, ql, qm, qn, ne_eq, qo, qp, forall_eq, qs, qt, Int.reduceToNat, qu, exists_eq_left', et, scrT_len, lg_all, rsho_all, scr_all, z3x, hR, hlg, hsh, h100, h40, h41, hn, scr_pre, en, p1, p2, p3, p4, true_implies, not_true_eq_false, not_false_eq_true, false_implies, and_true, true_and, reduceCtorEq])) rfl
open Go Go.Lib in
theorem zme {l : List (String × DataW Unit)} {W : World} (h : laidMet Tryd.prog l W) (hx : ∃ n, Tryd.prog.globalNamed n = some 0 ∧ (n, (tabData .i64 popsZ : DataW Unit)) ∈ l)
    (hy : ∃ n, Tryd.prog.globalNamed n = some 1 ∧ (n, (tabData .i64 pushZ : DataW Unit)) ∈ l) (h1 : ("unicode/utf8.first", Lib.firstData) ∈ l) (h2 : ("unicode/utf8.acceptRanges", Lib.acceptData) ∈ l) : GlobOk (mkEnv globT []) gtabU W := by
  have hb := z7v h hx hy
  have hT := tabs_of h h1 h2
  intro g ag cs hg
  simp only [gtabU, List.mem_cons, List.not_mem_nil, or_false, Prod.mk.injEq] at hg
  rcases hg with ⟨rfl, rfl, rfl⟩ | ⟨rfl, rfl, rfl⟩ | ⟨rfl, rfl, rfl⟩ | ⟨rfl, rfl, rfl⟩
  · exact hb _ _ _ (by unfold gtab; simp)
  · exact hb _ _ _ (by unfold gtab; simp)
  · exact z0l hT
  · exact zxe hT
end Go.Proofs.YtlhagkbhojmjpaaDoor
