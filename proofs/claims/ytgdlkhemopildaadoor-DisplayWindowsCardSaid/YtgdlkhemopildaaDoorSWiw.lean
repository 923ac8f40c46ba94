/- Written by this repo's own program out of its texts. -/
import Derived.Test.YtgdlkhemopildaaDoorSAdx
import Derived.Test.YtgdlkhemopildaaDoorSV2
namespace Go.Proofs.YtgdlkhemopildaaDoor
set_option linter.unusedSimpArgs false
set_option linter.unusedVariables false
set_option linter.unusedSectionVars false
def WoI (n sz : Nat) (xs : List TV) : Prop := ∃ (i : Nat) (dr dl : Int), xs = [.int i, .int sz, .int dr, .int dl, .bool false] ∧ i ≤ n ∧ (i < n → dr = i ∧ dl = 0)
def Wom (n : Nat) (xs : List TV) : Nat := n - (xs.getD 0 (.int 0)).asInt.toNat
theorem wom_i (n i : Nat) (a b d e : TV) : Wom n [.int (i : Int), a, b, d, e] = n - i := congrArg (n - ·) (Int.toNat_natCast i)
def WiI (C : List Int) (i n sz : Nat) (xs : List TV) : Prop := ∃ (j : Nat) (dr dl : Int), xs = [ints (C.drop (j * sz)), .bool (decide (j = 0)), .int sz, .int dr, .int dl, .bool false] ∧ j ≤ cntW sz C.length ∧ (j < cntW sz C.length → dr = i ∧ dl = (j * sz : Nat)) ∧ (j = cntW sz C.length → i + 1 < n → dr = (i + 1 : Nat) ∧ dl = 0)
def Wim (xs : List TV) : Nat := 2 * (xs.getD 0 (.int 0)).asList.length + (if (xs.getD 1 (.int 0)).asBool = true then 1 else 0)
theorem wim_i (l : List Int) (b : Bool) (x y z u : TV) : Wim [ints l, .bool b, x, y, z, u] = 2 * l.length + (if b = true then 1 else 0) := by
  show 2 * (ints l).asList.length + _ = _
  rw [ints, TV.asList, List.length_map]
  rfl
def WlI (n : Nat) (xs : List TV) : Prop := ∃ q : Nat, xs = [.int q] ∧ q ≤ n
def Wlm (n : Nat) (xs : List TV) : Nat := n - (xs.getD 0 (.int 0)).asInt.toNat
theorem wlm_i (n q : Nat) : Wlm n [.int (q : Int)] = n - q := congrArg (n - ·) (Int.toNat_natCast q)
theorem more_iff {sz n j : Nat} (hs : 1 ≤ sz) (hj : j ≤ cntW sz n) (h0 : 0 < j) : j < cntW sz n ↔ j * sz < n := by
  unfold cntW at *
  constructor
  · intro h
    have h1 := (Nat.le_div_iff_mul_le (show 0 < sz by omega)).1 (show j ≤ (n - 1) / sz by omega)
    have h2 : 1 * 1 ≤ j * sz := Nat.mul_le_mul h0 hs
    omega
  · intro h
    have := (Nat.le_div_iff_mul_le (show 0 < sz by omega)).2 (show j * sz ≤ n - 1 by omega)
    omega
theorem drop_min (C : List Int) (j sz : Nat) : (C.drop (j * sz)).drop (min (C.length - j * sz) sz) = C.drop ((j + 1) * sz) := by
  rw [List.drop_drop, Nat.add_mul, Nat.one_mul]
  rcases Nat.le_total sz (C.length - j * sz) with h | h
  · rw [Nat.min_eq_right h]
  · rw [Nat.min_eq_left h, List.drop_eq_nil_of_le (by omega), List.drop_eq_nil_of_le (by omega)]
theorem show_any {sz dr dl w h : Int} {rows : List (List Gl)} {r c : Int} (hq : qhx sz dr dl w h rows r c = true) (hd : min dr (h - 1) = dr) (vis k : Bool) : ∃ a, showT sz dr dl w h rows r c vis k = .agg [ints (showC (brC (rw' rows dr) k) sz.toNat dl.toNat), .int a] := by
  unfold showT
  rw [if_pos hq, hd]
  exact ⟨_, rfl⟩
theorem wdrop_get (l : List Int) (a b : Nat) : (l.drop a).getD b 0 = l.getD (a + b) 0 := by simp [List.getD_eq_getElem?_getD]
theorem lens_get {rows : List (List Gl)} {i : Nat} (k : Bool) (h : i < rows.length) : (lensW rows k)[i]? = some (brC (rr rows i) k).length := by
  rw [lensW, List.getElem?_map, rr, List.getD_eq_getElem?_getD, List.getElem?_eq_getElem h]
  rfl
def vbuP (ts : List TV) : Prop := ∃ (w h : Int) (rows : List (List Gl)) (r c : Int) (vis k : Bool) (x : Int), ts = [.agg [.int w, .int h, rowsT rows, .int r, .int c, .bool vis], .bool k, .int x] ∧ 0 ≤ x ∧ x ≤ 255
theorem vbuP_of {t0 t1 t2 : TV} (h0 : OkA true [.int .i64, .int .i64, .slice false [.slice true [.str, .bool, .int .i64]], .int .i64, .int .i64, .bool] t0) (h1 : OkA false [.bool] t1) (h2 : OkA false [.int .u8] t2) : vbuP [t0, t1, t2] := by
  obtain ⟨w, h, rows, r, c, vis, rfl⟩ := h0.view
  obtain ⟨k, rfl⟩ := h1.bool
  obtain ⟨x, rfl, hx, hx'⟩ := h2.int
  exact ⟨w, h, rows, r, c, vis, k, x, rfl, hx, hx'⟩
theorem lawWindows_c (k : Nat) : Contract Tryd.prog (mkEnv globT []) gtabU (qiw k) (trueL vbuP).pre (trueL vbuP).post := Contract.env (Γ := mkEnv globT [rofL, greatL, rckL, pshowL, ppanL, awkL]) (qix (fun _ => rfl) (fun s hs => by
    simp only [cx_law54_DisplayWindows, List.mem_cons, List.not_mem_nil, or_false] at hs
    rcases hs with rfl | rfl | rfl | rfl | rfl | rfl
    · exact Contract.inEnv rfl ((rof_c 0).gt za3) rfl
    · exact Contract.inEnv rfl (great_c 1) rfl
    · exact Contract.inEnv rfl (rck_c 2) rfl
    · exact Contract.inEnv rfl (pshow_c 3) rfl
    · exact Contract.inEnv rfl (ppan_c 4) rfl
    · exact Contract.inEnv rfl (awk_c 5) rfl) k (by
  rintro ts hl ⟨w, h, rows, r, c, vis, k, x, rfl, a0, a1⟩
  unfold tr_law54_DisplayWindows
  cases hg : qby w rows with
  | true =>
    simp only [Tree.den, E.den, P1.den, P2.den, P3.den, qa, qb, qc, qd, qe, qf, qg, qh, zac, zab, zad, zaa, zae, TV.cell, zah, zai, zag, zaf, qi, qj, qk, ql, qm, qn, ne_eq, qo, qp, forall_eq, qs, qt, Int.reduceToNat, qu, exists_eq_left', great_all, awk_all, hg]
    exact ⟨great_pre trivial, fun _ => ⟨awk_pre, rfl⟩, False.elim⟩
  | false =>
    have hs := (small_view hg).1
    simp only [Tree.den, E.den, P1.den, P2.den, P3.den, qa, qb, qc, qd, qe, qf, qg, qh, zac, zab, zad, zaa, zae, TV.cell, zah, zai, zag, zaf, qi, qj, qk, ql, qm, qn, ne_eq, qo, qp, forall_eq, qs, qt, Int.reduceToNat, qu, exists_eq_left', great_all, awk_all, hg, rck_all, qbj, true_implies, not_true_eq_false, false_implies, and_true, true_and]
    refine ⟨great_pre trivial, fun _ => ⟨awk_pre, rfl⟩, fun h6 => ⟨rck_pre hs, fun _ => ⟨awk_pre, rfl⟩, fun hc => ?_⟩⟩
    have V := proper_view hc
    have b1 := V.h1; have b2 := V.h2; have b3 := V.len
    obtain ⟨sz, hsz⟩ : ∃ sz : Nat, 1 + x % 80 = (sz : Int) := ⟨(1 + x % 80).toNat, by omega⟩
    have hs1 : 1 ≤ sz := by omega
    have hs2 : sz ≤ 80 := by omega
    have esz : IntKind.wrap .i64 (1 + (IntKind.wrap .i64 x).tmod 80) = (sz : Int) := by
      rw [wrap_i64 (n := x) (by omega) (by omega), Int.tmod_eq_emod_of_nonneg a0, wrap_i64 (by omega) (by omega), hsz]
    rw [esz]
    refine ⟨WoI rows.length sz, Wom rows.length, ⟨0, 0, 0, rfl, by omega, fun _ => ⟨rfl, rfl⟩⟩, ?_⟩
    rintro xs _ ⟨i, dr, dl, rfl, hi, hd⟩
    by_cases hin : i < rows.length
    · obtain ⟨rfl, rfl⟩ := hd hin
      have hmem : rr rows i ∈ rows := rr_mem hin
      have hsr := hs.2 _ hmem
      have hwd := qh5 hsr
      have hlen := hsr.1
      have hvg := V.vg hmem
      have hgr := qbv hin
      have hro := rof_pre (l := rr rows i) (k := k) ⟨by omega, by omega, hvg⟩
      have e : ∀ l k, brT l k = .agg [ints (brC l k), ints (brS l k)] := fun _ _ => rfl
      simp only [Tree.den, E.den, P1.den, P2.den, P3.den, qa, qb, qc, qd, qe, qf, qg, qh, zac, zab, zad, zaa, zae, TV.cell, zah, zai, zag, zaf, qi, qj, qk, ql, qm, qn, ne_eq, qo, qp, forall_eq, qs, qt, Int.reduceToNat, qu, exists_eq_left', List.cons_append, List.nil_append, Int.toNat_natCast, qbh, List.length_map, hgr, zbo, rof_all, e, awk_all]
      have hlg := lens_get k hin
      generalize hC : brC (rr rows i) k = C at *
      have hcp := qih sz C.length
      refine ⟨fun _ => ⟨by omega, by omega, fun _ => ⟨awk_pre, rfl⟩, fun h40 => ⟨by omega, by omega, hro, WiI C i rows.length sz, Wim, ⟨0, i, 0, by rw [Nat.zero_mul, List.drop_zero]; rfl, Nat.zero_le _, fun _ => ⟨rfl, by rw [Nat.zero_mul]; rfl⟩, fun h0 => absurd h0 (by omega)⟩, ?_⟩⟩, fun hh => absurd hh (by omega)⟩
      rintro xs _ ⟨j, dr, dl, rfl, hj, hd1, hd2⟩
      by_cases hjc : j < cntW sz C.length
      · obtain ⟨rfl, rfl⟩ := hd1 hjc
        have hCl : C.length ≤ 3920 := by
          have := br28 (V.rows _ hmem).1 k
          rw [hC] at this
          omega
        have hjs : j = 0 ∨ j * sz < C.length := by
          rcases Nat.eq_zero_or_pos j with h0 | h0
          · exact .inl h0
          · exact .inr ((more_iff hs1 hj h0).1 hjc)
        have hjb : j * sz ≤ 3920 := by
          rcases hjs with h0 | h0
          · rw [h0, Nat.zero_mul]; omega
          · omega
        have hq : qhx (sz : Int) (i : Int) ((j * sz : Nat) : Int) w h rows r c = true := properD_iff.2 ⟨by omega, by omega, by omega, by omega, by omega, by omega, hc⟩
        obtain ⟨a, hshow⟩ := show_any hq (show min (i : Int) (h - 1) = i by omega) vis k
        rw [show rw' rows (i : Int) = rr rows i from by unfold rw'; rw [Int.toNat_natCast], hC, Int.toNat_natCast, Int.toNat_natCast] at hshow
        have hX := toW_one hs1 hlg hjc
        have hpan := qiq (df := false) hq k 1
        unfold winT at hpan
        rw [Int.toNat_natCast, Int.toNat_natCast, Int.toNat_natCast] at hpan
        have hXl := qir rows k
        obtain ⟨⟨X1, X2⟩, hXX⟩ : ∃ X, toW sz i (j * sz) (lensW rows k) 1 = X := ⟨_, rfl⟩
        rw [hXX] at hpan hX
        have hdm := drop_min C j sz
        have hnx : (j + 1 < cntW sz C.length → (X1 : Int) = i ∧ (X2 : Int) = ((j + 1) * sz : Nat)) ∧ (j + 1 = cntW sz C.length → i + 1 < rows.length → (X1 : Int) = (i + 1 : Nat) ∧ (X2 : Int) = 0) := by
          refine ⟨fun h1 => ?_, fun h1 h2 => ?_⟩
          · rw [if_pos h1] at hX
            cases hX
            exact ⟨rfl, rfl⟩
          · rw [if_neg (by omega), if_pos (by omega)] at hX
            cases hX
            exact ⟨rfl, rfl⟩
        have hme : 2 * (C.length - (j + 1) * sz) + 0 < 2 * (C.length - j * sz) + (if decide (j = 0) = true then 1 else 0) := by
          rw [Nat.add_mul, Nat.one_mul]
          by_cases h0 : j = 0
          · rw [if_pos (decide_eq_true h0)]; omega
          · rw [if_neg (by simpa using h0)]; omega
        simp only [Tree.den, E.den, P1.den, P2.den, P3.den, qa, qb, qc, qd, qe, qf, qg, qh, zac, zab, zad, zaa, zae, TV.cell, zah, zai, zag, zaf, qi, qj, qk, ql, qm, qn, ne_eq, qo, qp, forall_eq, qs, qt, Int.reduceToNat, qu, exists_eq_left', zaj, zao, zaq, zan, zap, zam, zal, zar, qv, qq, qr, zak, List.cons_append, List.nil_append, Int.toNat_natCast, pshow_all, hshow, ppan_all, hpan, showC_len, List.length_drop]
        refine ⟨fun _ => ?_, fun hj0 => ⟨fun _ => ?_, fun hh => absurd hh (by have := hjs.resolve_left hj0; omega)⟩⟩
        all_goals
          refine ⟨pshow_pre hs, fun hh => absurd trivial hh, fun _ => ⟨fun hh => absurd trivial hh, fun _ => ⟨WlI sz, Wlm sz, ⟨0, rfl, Nat.zero_le _⟩, ?_⟩⟩⟩
          rintro xs _ ⟨q, rfl, hq9⟩
          have e5 : IntKind.wrap .i64 ((q : Int) + 1) = ((q + 1 : Nat) : Int) := by rw [wrap_i64 (by omega) (by omega)]; omega
          have hbk : q < sz → WlI sz [.int ((q + 1 : Nat) : Int)] ∧ Wlm sz [.int ((q + 1 : Nat) : Int)] < Wlm sz [.int (q : Int)] := fun hh => ⟨⟨q + 1, rfl, by omega⟩, by rw [wlm_i, wlm_i]; omega⟩
          have hget : q < sz → (showC C sz (j * sz)).getD q 0 = (C.drop (j * sz)).getD q 0 := fun hh => by rw [showC_get hh, wdrop_get]
          have hzero : q < sz → C.length - j * sz ≤ q → (C.drop (j * sz)).getD q 0 = 0 := fun _ hh => by
            rw [wdrop_get, List.getD_eq_getElem?_getD, List.getElem?_eq_none (by omega)]; rfl
          have hmn : (min ((C.length - j * sz : Nat) : Int) (sz : Int)).toNat = min (C.length - j * sz) sz := by omega
          have hrest : TV.list (List.take (C.length - j * sz - min (C.length - j * sz) sz) (List.drop (min (C.length - j * sz) sz) (List.map TV.int (List.drop (j * sz) C)))) = ints (C.drop ((j + 1) * sz)) := by
            rw [← List.map_drop, hdm, List.take_of_length_le (by rw [List.length_map, List.length_drop, Nat.add_mul]; omega)]
            rfl
          simp only [Tree.den, E.den, P1.den, P2.den, P3.den, qa, qb, qc, qd, qe, qf, qg, qh, zac, zab, zad, zaa, zae, TV.cell, zah, zai, zag, zaf, qi, qj, qk, ql, qm, qn, ne_eq, qo, qp, forall_eq, qs, qt, Int.reduceToNat, qu, exists_eq_left', zaj, zao, zaq, zan, zap, zam, zal, zar, qv, qq, qr, zak, List.cons_append, List.nil_append, Int.toNat_natCast, e5, hmn, hrest]
          by_cases hqs : q < sz
          · rw [hget hqs]
            refine ⟨fun _ => ⟨fun hm => ⟨by omega, by omega, by omega, by omega, fun hh => absurd rfl hh, fun _ => ⟨fun hm2 => absurd hm2 (by omega), fun _ => hbk hqs⟩⟩, fun hm => ⟨fun hm2 => ⟨by omega, by omega, fun hh => absurd (hzero hqs (by omega)) hh, fun _ => hbk hqs⟩, fun hm2 => absurd hm2 (by omega)⟩⟩, fun hh => absurd hh (by omega)⟩
          · refine ⟨fun hh => absurd hh (by omega), fun _ => ⟨by omega, by omega, ppan_pre hs, fun hh => absurd hh (by omega), fun _ => ⟨fun hh => absurd hh (by decide), fun _ => ⟨⟨j + 1, X1, X2, by rw [decide_eq_false (show ¬ j + 1 = 0 by omega)], by omega, fun h1 => hnx.1 h1, fun h1 h2 => hnx.2 h1 h2⟩, ?_⟩⟩⟩⟩
            rw [wim_i, wim_i, List.length_drop, List.length_drop, if_neg (by decide)]
            exact hme
      · obtain rfl : j = cntW sz C.length := by omega
        have hn0 : ¬ cntW sz C.length * sz < C.length := fun hh => by
          have := (more_iff hs1 (Nat.le_refl _) (by omega)).2 hh
          omega
        have e1 : IntKind.wrap .i64 ((i : Int) + 1) = ((i + 1 : Nat) : Int) := by rw [wrap_i64 (by omega) (by omega)]; omega
        have ef : decide (cntW sz C.length = 0) = false := decide_eq_false (by omega)
        simp only [Tree.den, E.den, P1.den, P2.den, P3.den, qa, qb, qc, qd, qe, qf, qg, qh, zac, zab, zad, zaa, zae, TV.cell, zah, zai, zag, zaf, qi, qj, qk, ql, qm, qn, ne_eq, qo, qp, forall_eq, qs, qt, Int.reduceToNat, qu, exists_eq_left', zaj, zao, zaq, zan, zap, zam, zal, zar, qv, qq, qr, zak, List.cons_append, List.nil_append, Int.toNat_natCast, ef, e1, wom_i, List.length_drop]
        exact ⟨fun hh => absurd hh (by simp), fun _ => ⟨fun hh => absurd hh (by omega), fun _ => ⟨⟨i + 1, dr, dl, rfl, by omega, fun hh => hd2 rfl hh⟩, by omega⟩⟩⟩
    · simp only [Tree.den, E.den, P1.den, P2.den, P3.den, qa, qb, qc, qd, qe, qf, qg, qh, zac, zab, zad, zaa, zae, TV.cell, zah, zai, zag, zaf, qi, qj, qk, ql, qm, qn, ne_eq, qo, qp, forall_eq, qs, qt, Int.reduceToNat, qu, exists_eq_left', List.cons_append, List.nil_append, Int.toNat_natCast, qbh, List.length_map, awk_all]
      exact ⟨fun hh => absurd hh (by omega), fun _ => ⟨awk_pre, rfl⟩⟩)) rfl
end Go.Proofs.YtgdlkhemopildaaDoor

