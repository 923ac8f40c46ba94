/- Written by this repo's own program out of its texts. -/
import Derived.Test.YtgdlkhemopildaaDoorPDis
namespace Go.Proofs.YtgdlkhemopildaaDoor
set_option linter.unusedSimpArgs false
set_option linter.unusedVariables false
set_option linter.unusedSectionVars false
def shP (l : List Int) (n i : Nat) : List Int := l.take i ++ List.replicate (n - i) 0
theorem shP_len {l : List Int} {n i : Nat} (hl : l.length = n) (hi : i ≤ n) : (shP l n i).length = n := by
  unfold shP
  rw [List.length_append, List.length_take, List.length_replicate]
  omega
theorem shP_rep {n i : Nat} (h : i < n) : List.replicate (n - i) (0 : Int) = 0 :: List.replicate (n - (i + 1)) 0 := by
  rw [show n - i = (n - (i + 1)) + 1 from by omega]
  rfl
theorem shP_set {l : List Int} {n i : Nat} (hl : l.length = n) (hi : i < n) : (shP l n i).set i (l.getD i 0) = shP l n (i + 1) := by
  unfold shP
  rw [shP_rep hi, List.set_append_right _ _ (by rw [List.length_take]; omega), List.length_take, Nat.min_eq_left (by omega), Nat.sub_self, List.set_cons_zero, ← zkc (by omega), List.append_assoc]
  rfl
theorem shP_zero {l : List Int} {n i : Nat} (hl : l.length = n) (hi : i < n) (h : l.getD i 0 = 0) : shP l n i = shP l n (i + 1) := by
  unfold shP
  rw [shP_rep hi, ← zkc (by omega), h, List.append_assoc]
  rfl
theorem shP_zero' (l : List Int) (n : Nat) : shP l n 0 = List.replicate n 0 := by unfold shP; rw [List.take_zero, List.nil_append, Nat.sub_zero]
theorem shP_all {l : List Int} {n : Nat} (hl : l.length = n) : shP l n n = l := by unfold shP; rw [List.take_of_length_le (by omega), Nat.sub_self, List.replicate_zero, List.append_nil]
theorem showC_get {c : List Int} {sz dl i : Nat} (h : i < sz) : (showC c sz dl).getD i 0 = c.getD (dl + i) 0 := by
  unfold showC
  simp only [List.getD_eq_getElem?_getD]
  by_cases hi : dl + i < c.length
  · rw [List.getElem?_append_left (by rw [List.length_take, List.length_drop]; omega), List.getElem?_take_of_lt (by omega), List.getElem?_drop]
  · rw [List.getElem?_append_right (by rw [List.length_take, List.length_drop]; omega), List.getElem?_eq_none (l := c) (by omega), List.getElem?_replicate]
    split <;> rfl
def DsI (l : List Int) (n : Nat) (xs : List TV) : Prop := ∃ i : Nat, xs = [.int i, ints (shP l n i)] ∧ i ≤ n
def Dsm (n : Nat) (xs : List TV) : Nat := n - (xs.getD 0 (.int 0)).asInt.toNat
theorem set_ints (l : List Int) (i : Nat) (x : Int) : TV.list ((ints l).asList.set i (TV.int x)) = ints (l.set i x) := by unfold ints; rw [TV.asList, List.map_set]
def rshowL : Law := ⟨fun ts => ∃ (sz : Int) (dr : Int) (dl : Int) (df : Bool) (w : Int) (h : Int) (rows : List (List Gl)) (r : Int) (c : Int) (vis : Bool) (sa : Int) (sb : Bool) (sc : Bool) (sd : Int) (sk : Bool) (sn : Int), ts = [.agg [.int sz, .int dr, .int dl, .bool df], .agg [.int w, .int h, rowsT rows, .int r, .int c, .bool vis], .agg [.int sa, .bool sb, .bool sc, .int sd, .bool sk, .int sn]] ∧ (SmallV rows), fun ts z₀ => ∀ (sz : Int) (dr : Int) (dl : Int) (df : Bool) (w : Int) (h : Int) (rows : List (List Gl)) (r : Int) (c : Int) (vis : Bool) (sa : Int) (sb : Bool) (sc : Bool) (sd : Int) (sk : Bool) (sn : Int), ts = [.agg [.int sz, .int dr, .int dl, .bool df], .agg [.int w, .int h, rowsT rows, .int r, .int c, .bool vis], .agg [.int sa, .bool sb, .bool sc, .int sd, .bool sk, .int sn]] → z₀ = showT sz dr dl w h rows r c vis sk⟩
theorem rshow_pre {sz : Int} {dr : Int} {dl : Int} {df : Bool} {w : Int} {h : Int} {rows : List (List Gl)} {r : Int} {c : Int} {vis : Bool} {sa : Int} {sb : Bool} {sc : Bool} {sd : Int} {sk : Bool} {sn : Int} (h₀ : SmallV rows) : rshowL.pre [.agg [.int sz, .int dr, .int dl, .bool df], .agg [.int w, .int h, rowsT rows, .int r, .int c, .bool vis], .agg [.int sa, .bool sb, .bool sc, .int sd, .bool sk, .int sn]] := ⟨sz, dr, dl, df, w, h, rows, r, c, vis, sa, sb, sc, sd, sk, sn, rfl, h₀⟩
theorem rshow_fin {sz : Int} {dr : Int} {dl : Int} {df : Bool} {w : Int} {h : Int} {rows : List (List Gl)} {r : Int} {c : Int} {vis : Bool} {sa : Int} {sb : Bool} {sc : Bool} {sd : Int} {sk : Bool} {sn : Int} {z₀ : TV} (h₀ : z₀ = showT sz dr dl w h rows r c vis sk) : rshowL.post [.agg [.int sz, .int dr, .int dl, .bool df], .agg [.int w, .int h, rowsT rows, .int r, .int c, .bool vis], .agg [.int sa, .bool sb, .bool sc, .int sd, .bool sk, .int sn]] z₀ := fun sz₁ dr₁ dl₁ df₁ w₁ h₁ rows₁ r₁ c₁ vis₁ sa₁ sb₁ sc₁ sd₁ sk₁ sn₁ e => by
  simp only [List.cons.injEq, TV.str.injEq, TV.int.injEq, TV.bool.injEq, TV.agg.injEq, TV.list.injEq, zat, and_true, true_and, and_assoc, rowsT_eq] at e; obtain ⟨rfl, rfl, rfl, rfl, rfl, rfl, rfl, rfl, rfl, rfl, rfl, rfl, rfl, rfl, rfl, rfl⟩ := e
  exact h₀
theorem rshow_all {sz : Int} {dr : Int} {dl : Int} {df : Bool} {w : Int} {h : Int} {rows : List (List Gl)} {r : Int} {c : Int} {vis : Bool} {sa : Int} {sb : Bool} {sc : Bool} {sd : Int} {sk : Bool} {sn : Int} {Q : TV → Prop} : (∀ z₀, rshowL.post [.agg [.int sz, .int dr, .int dl, .bool df], .agg [.int w, .int h, rowsT rows, .int r, .int c, .bool vis], .agg [.int sa, .bool sb, .bool sc, .int sd, .bool sk, .int sn]] z₀ → Q z₀) ↔ Q (showT sz dr dl w h rows r c vis sk) := ⟨fun h₀ => h₀ _ (rshow_fin rfl), fun h₀ z₀ hr => by rw [hr _ _ _ _ _ _ _ _ _ _ _ _ _ _ _ _ rfl]; exact h₀⟩
theorem rshow_c (k : Nat) : Contract Tryd.prog (mkEnv globT []) gtabU (qez k) rshowL.pre rshowL.post := Contract.env (Γ := mkEnv globT [rpropL, rlineL, rcurL, rcursorL]) (contract_ref54_Show (fun _ => rfl) (fun s hs => by
    simp only [cx_ref54_Show, List.mem_cons, List.not_mem_nil, or_false] at hs
    rcases hs with rfl | rfl | rfl | rfl
    · exact Contract.inEnv rfl (rprop_c 0) rfl
    · exact Contract.inEnv rfl (rline_c 1) rfl
    · exact Contract.inEnv rfl (rcur_c 2) rfl
    · exact Contract.inEnv rfl (rcursor_c 3) rfl) k (by
  rintro ts hl ⟨sz, dr, dl, df, w, h, rows, r, c, vis, sa, sb, sc, sd, sk, sn, rfl, hp⟩
  have hfin : ∀ z₀ : TV, z₀ = showT sz dr dl w h rows r c vis sk → rshowL.post [.agg [.int sz, .int dr, .int dl, .bool df], .agg [.int w, .int h, rowsT rows, .int r, .int c, .bool vis], .agg [.int sa, .bool sb, .bool sc, .int sd, .bool sk, .int sn]] z₀ := fun z₀ hz₀ => rshow_fin hz₀
  generalize rshowL.post [.agg [.int sz, .int dr, .int dl, .bool df], .agg [.int w, .int h, rowsT rows, .int r, .int c, .bool vis], .agg [.int sa, .bool sb, .bool sc, .int sd, .bool sk, .int sn]] = R at hfin ⊢
  unfold tr_ref54_Show
  unfold showT at hfin
  have e : ∀ l k, brT l k = .agg [ints (brC l k), ints (brS l k)] := fun _ _ => rfl
  cases hq : qhx sz dr dl w h rows r c with
  | false =>
    rw [if_neg (by rw [hq]; decide)] at hfin
    simp only [Tree.den, E.den, P1.den, P2.den, P3.den, qa, qb, qc, qd, qe, qf, qg, qh, zac, zab, zad, zaa, zae, TV.cell, zah, zai, zag, zaf, qi, qj, qk, ql, qm, qn, ne_eq, qo, qp, forall_eq, qs, qt, Int.reduceToNat, qu, exists_eq_left', rprop_all, hq]
    exact ⟨rprop_pre hp, fun _ => hfin _ rfl, fun h => absurd h (by simp)⟩
  | true =>
    rw [if_pos hq] at hfin
    have P := properD_iff.1 hq
    have V := proper_view P.ck
    have a1 := P.s1; have a2 := P.s2; have a3 := P.d1; have a4 := P.d2; have a5 := P.l1; have a6 := P.l2
    have b1 := V.h1; have b2 := V.h2; have b3 := V.len; have b4 := V.r1; have b5 := V.r2; have b6 := V.c1; have b7 := V.c2; have b8 := V.w2
    have hrow0 : 0 ≤ min dr (h - 1) := by omega
    have hrow1 : min dr (h - 1) < rows.length := by omega
    have hmr := rw_mem hrow0 hrow1
    have hsr := hp.2 _ hmr
    have hw := qh5 hsr
    have hl := hsr.1
    have hcb := z1x (rw' rows (min dr (h - 1))) sk
    have hcu := curV_bd (V.rows _ (rw_mem b4 (by omega))).1 (V.rows _ (rw_mem b4 (by omega))).2 b8 b6 b7 sk
    have q1 := rcursor_pre (w := w) (h := h) (vis := vis) (sa := sa) (sb := sb) (sc := sc) (sd := sd) (sk := sk) (sn := sn) (rows := rows) (r := r) (c := c) ⟨hp, b4, by omega, by omega, V.vg (rw_mem b4 (by omega))⟩
    have q2 : rcurL.pre [.agg [.int sz, .int dr, .int dl, .bool df], .agg [.int w, .int h, rowsT rows, .int r, .int c, .bool vis]] := rcur_pre ⟨by omega, by omega⟩
    have q3 := rline_pre (w := w) (h := h) (rows := rows) (r := r) (c := c) (vis := vis) (i := min dr (h - 1)) (sa := sa) (sb := sb) (sc := sc) (sd := sd) (sk := sk) (sn := sn) ⟨hp, hrow0, hrow1, V.vg hmr⟩
    simp only [Tree.den, E.den, P1.den, P2.den, P3.den, qa, qb, qc, qd, qe, qf, qg, qh, zac, zab, zad, zaa, zae, TV.cell, zah, zai, zag, zaf, qi, qj, qk, ql, qm, qn, ne_eq, qo, qp, forall_eq, qs, qt, Int.reduceToNat, qu, exists_eq_left', rprop_all, hq, rcur_all, rline_all, e, rcursor_all]
    simp only [Tree.den, E.den, P1.den, P2.den, P3.den, qa, qb, qc, qd, qe, qf, qg, qh, zac, zab, zad, zaa, zae, TV.cell, zah, zai, zag, zaf, qi, qj, qk, ql, qm, qn, ne_eq, qo, qp, forall_eq, qs, qt, Int.reduceToNat, qu, exists_eq_left', zaj, zao, zaq, zan, zap, zam, zal, zar, qv, qq, qr, zak, and_self]
    generalize hC : brC (rw' rows (min dr (h - 1))) sk = C at *
    generalize hcv : curV (rw' rows r) c sk = cu at *
    have ew : IntKind.wrap .i64 (cu - dl) = cu - dl := wrap_i64 (by omega) (by omega)
    have hll : (showC C sz.toNat dl.toNat).length = sz.toNat := showC_len _ _ _
    refine ⟨rprop_pre hp, False.elim, fun _ => ⟨q2, q3, by omega, by omega, by omega, DsI (showC C sz.toNat dl.toNat) sz.toNat, Dsm sz.toNat, ⟨0, by rw [shP_zero', rep_ints]; rfl, by omega⟩, ?_⟩⟩
    rintro xs _ ⟨i, rfl, hi⟩
    have e1 : ([TV.int i, ints (shP (showC C sz.toNat dl.toNat) sz.toNat i)].getD 0 (TV.int 0)).asInt = i := rfl
    have e2 : ([TV.int i, ints (shP (showC C sz.toNat dl.toNat) sz.toNat i)].getD 1 (TV.int 0)) = ints (shP (showC C sz.toNat dl.toNat) sz.toNat i) := rfl
    have e3 : (([TV.int i, ints (shP (showC C sz.toNat dl.toNat) sz.toNat i)] ++ [TV.int cu] ++ [TV.int (min dr (h - 1))]).getD 3 (TV.int 0)).asInt = min dr (h - 1) := rfl
    have e4 : (([TV.int i, ints (shP (showC C sz.toNat dl.toNat) sz.toNat i)] ++ [TV.int cu] ++ [TV.int (min dr (h - 1))]).getD 2 (TV.int 0)).asInt = cu := rfl
    have e5 : (([TV.int i, ints (shP (showC C sz.toNat dl.toNat) sz.toNat i)] ++ [TV.int cu] ++ [TV.int (min dr (h - 1))]).getD 1 (TV.int 0)) = ints (shP (showC C sz.toNat dl.toNat) sz.toNat i) := rfl
    have e6 : IntKind.wrap .i64 (dl + i) = dl + i := wrap_i64 (by omega) (by omega)
    have e7 : IntKind.wrap .i64 ((i : Int) + 1) = ((i + 1 : Nat) : Int) := by rw [wrap_i64 (by omega) (by omega)]; omega
    have e8 : (ints (shP (showC C sz.toNat dl.toNat) sz.toNat i)).asList.length = sz.toNat := by rw [ints, TV.asList, List.length_map, shP_len hll hi]
    have e9 : (dl + i).toNat = dl.toNat + i := by omega
    simp only [e1, e2, e3, e4, e5, e6, e7, e8, e9, set_ints, Int.toNat_natCast, ew]
    have hm : ∀ x : TV, Dsm sz.toNat [.int ((i + 1 : Nat) : Int), x] = sz.toNat - (i + 1) := fun x => by unfold Dsm; exact congrArg (sz.toNat - ·) (Int.toNat_natCast (i + 1))
    have hm0 : ∀ x : TV, Dsm sz.toNat [.int (i : Int), x] = sz.toNat - i := fun x => by unfold Dsm; exact congrArg (sz.toNat - ·) (Int.toNat_natCast i)
    simp only [hm, hm0]
    refine ⟨fun hlt => ⟨fun hin => ⟨by omega, hin, by omega, by omega, ?_, by omega⟩, fun hin => ⟨?_, by omega⟩⟩, fun hge => ⟨q1, q2, ?_⟩⟩
    · rw [← showC_get (c := C) (sz := sz.toNat) (dl := dl.toNat) (i := i) (by omega), shP_set hll (by omega)]
      exact ⟨i + 1, rfl, by omega⟩
    · rw [shP_zero hll (by omega) (by rw [showC_get (c := C) (sz := sz.toNat) (dl := dl.toNat) (i := i) (by omega), List.getD_eq_getElem?_getD, List.getElem?_eq_none (by omega)]; rfl)]
      exact ⟨i + 1, rfl, by omega⟩
    · have hi' : i = sz.toNat := by omega
      subst hi'
      rw [shP_all hll]
      unfold showA at hfin
      refine ⟨fun hn => hfin _ (by rw [if_neg (fun hh => hn hh.1)]), fun hy => ⟨fun hv => hfin _ (by rw [if_neg (fun hh => by rw [hv] at hh; exact absurd hh.2.1 (by decide))]), fun hv => ⟨fun hlt => hfin _ (by rw [if_neg (by omega)]), fun hge0 => ⟨fun hbig => hfin _ (by rw [if_neg (by omega)]), fun hsm => hfin _ (by rw [if_pos ⟨hy, hv, by omega, by omega⟩])⟩⟩⟩⟩)) rfl
end Go.Proofs.YtgdlkhemopildaaDoor

