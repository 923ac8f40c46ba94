/- Written by this repo's own program out of its texts. -/
import Derived.Test.YtlhagkbhojmjpaaGreatDoorRDit
namespace Go.Proofs.YtlhagkbhojmjpaaGreatDoor
set_option linter.unusedSimpArgs false
set_option linter.unusedVariables false
set_option linter.unusedSectionVars false
def colV (l : List Gl) (g : Int) : Int := widG (l.take (min g l.length).toNat) + max 0 (g - l.length)
theorem glyphAt_br {l : List Gl} (h : VG l) (k : Bool) {i : Int} (h0 : 0 ≤ i) (h1 : i ≤ 1000000) (hl : l.length ≤ 1000000) :
    (i < (brC l k).length ∧ zb6 (brC l k) (brS l k) i = (brS l k).getD i.toNat 0 ∧ 0 ≤ (brS l k).getD i.toNat 0 ∧ (brS l k).getD i.toNat 0 < l.length) ∨ ((brC l k).length ≤ i ∧ zb6 (brC l k) (brS l k) i = l.length + i - (brC l k).length) := by
  have hP := br_PL h k
  unfold zb6
  rw [if_neg (by rintro (e | e | e) <;> first | exact e hP | omega)]
  by_cases hi : i < (brC l k).length
  · rw [if_pos hi]
    have hm := z3d h k _ (brS_get (l := l) (k := k) (i := i.toNat) (by omega))
    exact .inl ⟨hi, rfl, hm.1, hm.2⟩
  · rw [if_neg hi, z1c, wrap_i64 (show (-9223372036854775808 : Int) ≤ l.length + i by omega) (by omega), wrap_i64 (by omega) (by omega)]
    exact .inr ⟨by omega, rfl⟩
theorem glyphAt_bd {l : List Gl} (h : VG l) (k : Bool) {i : Int} (h0 : 0 ≤ i) (h1 : i ≤ 1000000) (hl : l.length ≤ 1000000) : 0 ≤ zb6 (brC l k) (brS l k) i ∧ zb6 (brC l k) (brS l k) i ≤ l.length + i := by
  rcases glyphAt_br h k h0 h1 hl with ⟨a, b, e, d⟩ | ⟨a, b⟩
  · rw [b]; omega
  · rw [b]; omega
theorem colV_bd {l : List Gl} {g : Int} (h : 0 ≤ g) : 0 ≤ colV l g ∧ colV l g ≤ 2 * l.length + g := by
  unfold colV
  have h1 := qbz (l.take (min g l.length).toNat)
  have h2 : (l.take (min g l.length).toNat).length ≤ l.length := by rw [List.length_take]; omega
  omega
theorem take_gls (l : List Gl) (n : Nat) : TV.list (List.take (n - 0) (List.drop 0 (glsT l).asList)) = glsT (l.take n) := by
  unfold glsT
  rw [TV.asList, List.drop_zero, Nat.sub_zero, List.map_take]
noncomputable def qhy (sz dr dl w h : Int) (rows : List (List Gl)) (r c : Int) (k : Bool) (x : Int) : TV :=
  if qhx sz dr dl w h rows r c = true then (if x < 0 ∨ sz ≤ x then .agg [.int 0, .int 0, .int 2] else
    if w ≤ colV (rw' rows (min dr (h - 1))) (zb6 (brC (rw' rows (min dr (h - 1))) k) (brS (rw' rows (min dr (h - 1))) k) (dl + x)) then .agg [.int 0, .int 0, .int 2]
    else .agg [.int (min dr (h - 1)), .int (colV (rw' rows (min dr (h - 1))) (zb6 (brC (rw' rows (min dr (h - 1))) k) (brS (rw' rows (min dr (h - 1))) k) (dl + x))), .int 0])
  else .agg [.int 0, .int 0, .int 1]
def prouteL : Law := ⟨fun ts => ∃ (sz : Int) (dr : Int) (dl : Int) (df : Bool) (w : Int) (h : Int) (rows : List (List Gl)) (r : Int) (c : Int) (vis : Bool) (sa : Int) (sb : Bool) (sc : Bool) (sd : Int) (sk : Bool) (sn : Int) (x : Int), ts = [.agg [.int sz, .int dr, .int dl, .bool df], .agg [.int w, .int h, rowsT rows, .int r, .int c, .bool vis], .agg [.int sa, .bool sb, .bool sc, .int sd, .bool sk, .int sn], .int x] ∧ (SmallV rows), fun ts z₀ => ∀ (sz : Int) (dr : Int) (dl : Int) (df : Bool) (w : Int) (h : Int) (rows : List (List Gl)) (r : Int) (c : Int) (vis : Bool) (sa : Int) (sb : Bool) (sc : Bool) (sd : Int) (sk : Bool) (sn : Int) (x : Int), ts = [.agg [.int sz, .int dr, .int dl, .bool df], .agg [.int w, .int h, rowsT rows, .int r, .int c, .bool vis], .agg [.int sa, .bool sb, .bool sc, .int sd, .bool sk, .int sn], .int x] → z₀ = qhy sz dr dl w h rows r c sk x⟩
theorem proute_pre {sz : Int} {dr : Int} {dl : Int} {df : Bool} {w : Int} {h : Int} {rows : List (List Gl)} {r : Int} {c : Int} {vis : Bool} {sa : Int} {sb : Bool} {sc : Bool} {sd : Int} {sk : Bool} {sn : Int} {x : Int} (h₀ : SmallV rows) : prouteL.pre [.agg [.int sz, .int dr, .int dl, .bool df], .agg [.int w, .int h, rowsT rows, .int r, .int c, .bool vis], .agg [.int sa, .bool sb, .bool sc, .int sd, .bool sk, .int sn], .int x] := ⟨sz, dr, dl, df, w, h, rows, r, c, vis, sa, sb, sc, sd, sk, sn, x, rfl, h₀⟩
theorem proute_fin {sz : Int} {dr : Int} {dl : Int} {df : Bool} {w : Int} {h : Int} {rows : List (List Gl)} {r : Int} {c : Int} {vis : Bool} {sa : Int} {sb : Bool} {sc : Bool} {sd : Int} {sk : Bool} {sn : Int} {x : Int} {z₀ : TV} (h₀ : z₀ = qhy sz dr dl w h rows r c sk x) : prouteL.post [.agg [.int sz, .int dr, .int dl, .bool df], .agg [.int w, .int h, rowsT rows, .int r, .int c, .bool vis], .agg [.int sa, .bool sb, .bool sc, .int sd, .bool sk, .int sn], .int x] z₀ := fun sz₁ dr₁ dl₁ df₁ w₁ h₁ rows₁ r₁ c₁ vis₁ sa₁ sb₁ sc₁ sd₁ sk₁ sn₁ x₁ e => by
  simp only [List.cons.injEq, TV.str.injEq, TV.int.injEq, TV.bool.injEq, TV.agg.injEq, TV.list.injEq, zat, and_true, true_and, and_assoc, rowsT_eq] at e; obtain ⟨rfl, rfl, rfl, rfl, rfl, rfl, rfl, rfl, rfl, rfl, rfl, rfl, rfl, rfl, rfl, rfl, rfl⟩ := e
  exact h₀
theorem proute_all {sz : Int} {dr : Int} {dl : Int} {df : Bool} {w : Int} {h : Int} {rows : List (List Gl)} {r : Int} {c : Int} {vis : Bool} {sa : Int} {sb : Bool} {sc : Bool} {sd : Int} {sk : Bool} {sn : Int} {x : Int} {Q : TV → Prop} : (∀ z₀, prouteL.post [.agg [.int sz, .int dr, .int dl, .bool df], .agg [.int w, .int h, rowsT rows, .int r, .int c, .bool vis], .agg [.int sa, .bool sb, .bool sc, .int sd, .bool sk, .int sn], .int x] z₀ → Q z₀) ↔ Q (qhy sz dr dl w h rows r c sk x) := ⟨fun h₀ => h₀ _ (proute_fin rfl), fun h₀ z₀ hr => by rw [hr _ _ _ _ _ _ _ _ _ _ _ _ _ _ _ _ _ rfl]; exact h₀⟩
theorem proute_c (k : Nat) : Contract Tryz.prog (mkEnv globT []) gtabU (qb8 k) prouteL.pre prouteL.post := Contract.env (Γ := mkEnv globT [ofL, bglyphL, pwidL, ppropL, pcurL]) (contract_display_Route (fun _ => rfl) (fun s hs => by
    simp only [cx_display_Route, List.mem_cons, List.not_mem_nil, or_false] at hs
    rcases hs with rfl | rfl | rfl | rfl | rfl
    · exact Contract.inEnv rfl ((of_c 0).gt za3) rfl
    · exact Contract.inEnv rfl ((zsa 1).gt za3) rfl
    · exact Contract.inEnv rfl (pwid_c 2) rfl
    · exact Contract.inEnv rfl (pprop_c 3) rfl
    · exact Contract.inEnv rfl (pcur_c 4) rfl) k (by
  rintro ts hl ⟨sz, dr, dl, df, w, h, rows, r, c, vis, sa, sb, sc, sd, sk, sn, x, rfl, hp⟩
  have hfin : ∀ z₀ : TV, z₀ = qhy sz dr dl w h rows r c sk x → prouteL.post [.agg [.int sz, .int dr, .int dl, .bool df], .agg [.int w, .int h, rowsT rows, .int r, .int c, .bool vis], .agg [.int sa, .bool sb, .bool sc, .int sd, .bool sk, .int sn], .int x] z₀ := fun z₀ hz₀ => proute_fin hz₀
  generalize prouteL.post [.agg [.int sz, .int dr, .int dl, .bool df], .agg [.int w, .int h, rowsT rows, .int r, .int c, .bool vis], .agg [.int sa, .bool sb, .bool sc, .int sd, .bool sk, .int sn], .int x] = R at hfin ⊢
  unfold tr_display_Route
  unfold qhy at hfin
  have e : ∀ l k, brT l k = .agg [ints (brC l k), ints (brS l k)] := fun _ _ => rfl
  cases hq : qhx sz dr dl w h rows r c with
  | false =>
    rw [if_neg (by rw [hq]; decide)] at hfin
    simp only [Tree.den, E.den, P1.den, P2.den, P3.den, qa, qb, qc, qd, qe, qf, qg, qh, zac, zab, zad, zaa, zae, TV.cell, zah, zai, zag, zaf, qi, qj, qk, ql, qm, qn, ne_eq, qo, qp, forall_eq, qs, qt, Int.reduceToNat, qu, exists_eq_left', pprop_all, hq]
    exact ⟨pprop_pre hp, fun _ => hfin _ rfl, fun h => absurd h (by simp)⟩
  | true =>
    rw [if_pos hq] at hfin
    have P := properD_iff.1 hq
    have V := proper_view P.ck
    have a1 := P.s1; have a2 := P.s2; have a3 := P.d1; have a4 := P.d2; have a5 := P.l1; have a6 := P.l2
    have b1 := V.h1; have b2 := V.h2; have b3 := V.len; have b4 := V.r1; have b5 := V.r2; have b6 := V.c1; have b7 := V.c2; have b8 := V.w2
    have hrow0 : 0 ≤ min dr (h - 1) := by omega
    have hrow1 : min dr (h - 1) < rows.length := by omega
    have hmr := rw_mem hrow0 hrow1
    have hsr := hp.2 _ hmr
    have hw := qh5 hsr
    have hl := hsr.1
    have hv := V.vg hmr
    have hcb := z1x (rw' rows (min dr (h - 1))) sk
    have hsb := zym (rw' rows (min dr (h - 1))) sk
    have q2 : pcurL.pre [.agg [.int sz, .int dr, .int dl, .bool df], .agg [.int w, .int h, rowsT rows, .int r, .int c, .bool vis]] := pcur_pre ⟨by omega, by omega⟩
    have q3 := ztp (l := rw' rows (min dr (h - 1))) (a := sa) (b := sb) (c := sc) (d := sd) (k := sk) (n := sn) ⟨by omega, by omega⟩
    by_cases hx : x < 0 ∨ sz ≤ x
    · rw [if_pos hx] at hfin
      simp only [Tree.den, E.den, P1.den, P2.den, P3.den, qa, qb, qc, qd, qe, qf, qg, qh, zac, zab, zad, zaa, zae, TV.cell, zah, zai, zag, zaf, qi, qj, qk, ql, qm, qn, ne_eq, qo, qp, forall_eq, qs, qt, Int.reduceToNat, qu, exists_eq_left', pprop_all, hq]
      exact ⟨pprop_pre hp, fun h => absurd h (by simp), fun _ => ⟨fun _ => hfin _ rfl, fun h1 => ⟨fun _ => hfin _ rfl, fun h2 => absurd hx (by omega)⟩⟩⟩
    · rw [if_neg hx] at hfin
      have ew : IntKind.wrap .i64 (dl + x) = dl + x := wrap_i64 (by omega) (by omega)
      have hg := glyphAt_bd hv sk (i := dl + x) (by omega) (by omega) (by omega)
      have hc := colV_bd (l := rw' rows (min dr (h - 1))) hg.1
      have q4 := zj7 (c := brC (rw' rows (min dr (h - 1))) sk) (s := brS (rw' rows (min dr (h - 1))) sk) (g := dl + x) ⟨by omega, by omega⟩
      simp only [Tree.den, E.den, P1.den, P2.den, P3.den, qa, qb, qc, qd, qe, qf, qg, qh, zac, zab, zad, zaa, zae, TV.cell, zah, zai, zag, zaf, qi, qj, qk, ql, qm, qn, ne_eq, qo, qp, forall_eq, qs, qt, Int.reduceToNat, qu, exists_eq_left', pprop_all, hq, pcur_all, qbj, qbh, List.length_map, qh9 hrow0 hrow1, zx9, e, ew, zgv, zbo, take_gls, pwid_all]
      have q5 := pwid_pre (l := (rw' rows (min dr (h - 1))).take (min (zb6 (brC (rw' rows (min dr (h - 1))) sk) (brS (rw' rows (min dr (h - 1))) sk) (dl + x)) ((rw' rows (min dr (h - 1))).length : Int)).toNat) (by rw [List.length_take]; omega)
      unfold colV at hfin hc
      generalize zb6 (brC (rw' rows (min dr (h - 1))) sk) (brS (rw' rows (min dr (h - 1))) sk) (dl + x) = g at *
      have e1 : IntKind.wrap .i64 (g - ((rw' rows (min dr (h - 1))).length : Int)) = g - ((rw' rows (min dr (h - 1))).length : Int) := wrap_i64 (by omega) (by omega)
      simp only [e1]
      generalize hgw : widG ((rw' rows (min dr (h - 1))).take (min g ((rw' rows (min dr (h - 1))).length : Int)).toNat) = gw at *
      have e2 : IntKind.wrap .i64 (gw + max 0 (g - ((rw' rows (min dr (h - 1))).length : Int))) = gw + max 0 (g - ((rw' rows (min dr (h - 1))).length : Int)) := wrap_i64 (by omega) (by omega)
      simp only [e2]
      exact ⟨pprop_pre hp, fun h => absurd h (by simp), fun _ => ⟨fun _ => absurd hx (by omega), fun h1 => ⟨fun _ => absurd hx (by omega), fun h2 => ⟨q2, by omega, by omega, q3, q4, by omega, by omega, q5, fun h3 => hfin _ (by rw [if_pos h3]), fun h3 => hfin _ (by rw [if_neg h3])⟩⟩⟩⟩)) rfl
def falseL : Law := ⟨fun _ => False, fun _ _ => False⟩
theorem moved_c (k : Nat) : Contract Tryz.prog (mkEnv globT []) gtabU (qc9 k) falseL.pre falseL.post := ⟨⟨Tryz.f29, Tryz.f29.body.getD .skip, Tryz.func29, by kernel_rfl, by kernel_rfl⟩, fun _ _ _ _ _ h => h.elim⟩
noncomputable def folT (sz dr dl w h : Int) (rows : List (List Gl)) (r c : Int) (k : Bool) : TV :=
  if qhx sz dr dl w h rows r c = true then .agg [.int sz, .int r, .int (curV (rw' rows r) c k / sz * sz), .bool true] else .agg [.int sz, .int dr, .int dl, .bool true]
theorem ediv_le {a b : Int} (ha : 0 ≤ a) (hb : 1 ≤ b) : 0 ≤ a / b ∧ 0 ≤ a / b * b ∧ a / b * b ≤ a ∧ a < a / b * b + b ∧ a / b ≤ a := by
  have h1 := Int.ediv_mul_le a (show b ≠ 0 by omega)
  have h2 := Int.lt_ediv_add_one_mul_self a (show 0 < b by omega)
  have h3 := Int.ediv_nonneg ha (show 0 ≤ b by omega)
  rw [Int.add_mul, Int.one_mul] at h2
  have h4 : 0 ≤ a / b * b := Int.mul_nonneg h3 (by omega)
  have h5 : a / b * 1 ≤ a / b * b := Int.mul_le_mul_of_nonneg_left hb h3
  omega
def pfollowL : Law := ⟨fun ts => ∃ (sz : Int) (dr : Int) (dl : Int) (w : Int) (h : Int) (rows : List (List Gl)) (r : Int) (c : Int) (vis : Bool) (sa : Int) (sb : Bool) (sc : Bool) (sd : Int) (sk : Bool) (sn : Int), ts = [.agg [.int sz, .int dr, .int dl, .bool true], .agg [.int w, .int h, rowsT rows, .int r, .int c, .bool vis], .agg [.int sa, .bool sb, .bool sc, .int sd, .bool sk, .int sn]] ∧ (SmallV rows), fun ts z₀ => ∀ (sz : Int) (dr : Int) (dl : Int) (w : Int) (h : Int) (rows : List (List Gl)) (r : Int) (c : Int) (vis : Bool) (sa : Int) (sb : Bool) (sc : Bool) (sd : Int) (sk : Bool) (sn : Int), ts = [.agg [.int sz, .int dr, .int dl, .bool true], .agg [.int w, .int h, rowsT rows, .int r, .int c, .bool vis], .agg [.int sa, .bool sb, .bool sc, .int sd, .bool sk, .int sn]] → z₀ = folT sz dr dl w h rows r c sk⟩
theorem pfollow_pre {sz : Int} {dr : Int} {dl : Int} {w : Int} {h : Int} {rows : List (List Gl)} {r : Int} {c : Int} {vis : Bool} {sa : Int} {sb : Bool} {sc : Bool} {sd : Int} {sk : Bool} {sn : Int} (h₀ : SmallV rows) : pfollowL.pre [.agg [.int sz, .int dr, .int dl, .bool true], .agg [.int w, .int h, rowsT rows, .int r, .int c, .bool vis], .agg [.int sa, .bool sb, .bool sc, .int sd, .bool sk, .int sn]] := ⟨sz, dr, dl, w, h, rows, r, c, vis, sa, sb, sc, sd, sk, sn, rfl, h₀⟩
theorem qhw {sz : Int} {dr : Int} {dl : Int} {w : Int} {h : Int} {rows : List (List Gl)} {r : Int} {c : Int} {vis : Bool} {sa : Int} {sb : Bool} {sc : Bool} {sd : Int} {sk : Bool} {sn : Int} {z₀ : TV} (h₀ : z₀ = folT sz dr dl w h rows r c sk) : pfollowL.post [.agg [.int sz, .int dr, .int dl, .bool true], .agg [.int w, .int h, rowsT rows, .int r, .int c, .bool vis], .agg [.int sa, .bool sb, .bool sc, .int sd, .bool sk, .int sn]] z₀ := fun sz₁ dr₁ dl₁ w₁ h₁ rows₁ r₁ c₁ vis₁ sa₁ sb₁ sc₁ sd₁ sk₁ sn₁ e => by
  simp only [List.cons.injEq, TV.str.injEq, TV.int.injEq, TV.bool.injEq, TV.agg.injEq, TV.list.injEq, zat, and_true, true_and, and_assoc, rowsT_eq] at e; obtain ⟨rfl, rfl, rfl, rfl, rfl, rfl, rfl, rfl, rfl, rfl, rfl, rfl, rfl, rfl, rfl⟩ := e
  exact h₀
theorem pfollow_all {sz : Int} {dr : Int} {dl : Int} {w : Int} {h : Int} {rows : List (List Gl)} {r : Int} {c : Int} {vis : Bool} {sa : Int} {sb : Bool} {sc : Bool} {sd : Int} {sk : Bool} {sn : Int} {Q : TV → Prop} : (∀ z₀, pfollowL.post [.agg [.int sz, .int dr, .int dl, .bool true], .agg [.int w, .int h, rowsT rows, .int r, .int c, .bool vis], .agg [.int sa, .bool sb, .bool sc, .int sd, .bool sk, .int sn]] z₀ → Q z₀) ↔ Q (folT sz dr dl w h rows r c sk) := ⟨fun h₀ => h₀ _ (qhw rfl), fun h₀ z₀ hr => by rw [hr _ _ _ _ _ _ _ _ _ _ _ _ _ _ _ rfl]; exact h₀⟩
theorem pfollow_c (k : Nat) : Contract Tryz.prog (mkEnv globT []) gtabU (qb5 k) pfollowL.pre pfollowL.post := Contract.env (Γ := mkEnv globT [falseL, ppropL, pcursorL]) (contract_display_Follow (fun _ => rfl) (fun s hs => by
    simp only [cx_display_Follow, List.mem_cons, List.not_mem_nil, or_false] at hs
    rcases hs with rfl | rfl | rfl
    · exact Contract.inEnv rfl (moved_c 0) rfl
    · exact Contract.inEnv rfl (pprop_c 1) rfl
    · exact Contract.inEnv rfl (pcursor_c 2) rfl) k (by
  rintro ts hl ⟨sz, dr, dl, w, h, rows, r, c, vis, sa, sb, sc, sd, sk, sn, rfl, hp⟩
  have hfin : ∀ z₀ : TV, z₀ = folT sz dr dl w h rows r c sk → pfollowL.post [.agg [.int sz, .int dr, .int dl, .bool true], .agg [.int w, .int h, rowsT rows, .int r, .int c, .bool vis], .agg [.int sa, .bool sb, .bool sc, .int sd, .bool sk, .int sn]] z₀ := fun z₀ hz₀ => qhw hz₀
  generalize pfollowL.post [.agg [.int sz, .int dr, .int dl, .bool true], .agg [.int w, .int h, rowsT rows, .int r, .int c, .bool vis], .agg [.int sa, .bool sb, .bool sc, .int sd, .bool sk, .int sn]] = R at hfin ⊢
  unfold tr_display_Follow
  unfold folT at hfin
  cases hq : qhx sz dr dl w h rows r c with
  | false =>
    rw [if_neg (by rw [hq]; decide)] at hfin
    simp only [Tree.den, E.den, P1.den, P2.den, P3.den, qa, qb, qc, qd, qe, qf, qg, qh, zac, zab, zad, zaa, zae, TV.cell, zah, zai, zag, zaf, qi, qj, qk, ql, qm, qn, ne_eq, qo, qp, forall_eq, qs, qt, Int.reduceToNat, qu, exists_eq_left', pprop_all, hq]
    exact ⟨pprop_pre hp, fun _ => hfin _ rfl, fun h => absurd h (by simp)⟩
  | true =>
    rw [if_pos hq] at hfin
    have P := properD_iff.1 hq
    have V := proper_view P.ck
    have a1 := P.s1; have a2 := P.s2; have a3 := P.d1; have a4 := P.d2; have a5 := P.l1; have a6 := P.l2
    have b1 := V.h1; have b2 := V.h2; have b3 := V.len; have b4 := V.r1; have b5 := V.r2; have b6 := V.c1; have b7 := V.c2; have b8 := V.w2
    have hcu := curV_bd (V.rows _ (rw_mem b4 (by omega))).1 (V.rows _ (rw_mem b4 (by omega))).2 b8 b6 b7 sk
    have q1 := pcursor_pre (w := w) (h := h) (vis := vis) (sa := sa) (sb := sb) (sc := sc) (sd := sd) (sk := sk) (sn := sn) (rows := rows) (r := r) (c := c) ⟨hp, b4, by omega, by omega⟩
    simp only [Tree.den, E.den, P1.den, P2.den, P3.den, qa, qb, qc, qd, qe, qf, qg, qh, zac, zab, zad, zaa, zae, TV.cell, zah, zai, zag, zaf, qi, qj, qk, ql, qm, qn, ne_eq, qo, qp, forall_eq, qs, qt, Int.reduceToNat, qu, exists_eq_left', pprop_all, hq, pcursor_all]
    have hd := ediv_le hcu.1 a1
    have et : (curV (rw' rows r) c sk).tdiv sz = curV (rw' rows r) c sk / sz := Int.tdiv_eq_ediv_of_nonneg hcu.1
    have e1 : IntKind.wrap .i64 (curV (rw' rows r) c sk / sz) = curV (rw' rows r) c sk / sz := wrap_i64 (by omega) (by omega)
    have e2 : IntKind.wrap .i64 (curV (rw' rows r) c sk / sz * sz) = curV (rw' rows r) c sk / sz * sz := wrap_i64 (by omega) (by omega)
    simp only [et, e1, e2]
    exact ⟨pprop_pre hp, fun h => absurd h (by simp), fun _ => ⟨False.elim, fun _ => ⟨q1, by omega, hfin _ rfl⟩⟩⟩)) rfl
end Go.Proofs.YtlhagkbhojmjpaaGreatDoor

