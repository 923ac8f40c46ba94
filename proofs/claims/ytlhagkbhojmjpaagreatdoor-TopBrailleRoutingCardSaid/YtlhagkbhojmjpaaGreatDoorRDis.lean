/- Written by this repo's own program out of its texts. -/
import Derived.Test.YtlhagkbhojmjpaaGreatDoorRVie
namespace Go.Proofs.YtlhagkbhojmjpaaGreatDoor
set_option linter.unusedSimpArgs false
set_option linter.unusedVariables false
set_option linter.unusedSectionVars false
noncomputable def qhx (sz dr dl w h : Int) (rows : List (List Gl)) (r c : Int) : Bool := decide (1 ≤ sz) && decide (sz ≤ 80) && decide (0 ≤ dr) && decide (dr < 60) && decide (0 ≤ dl) && decide (dl ≤ 10000) && decide (qbo w h rows r c = 0)
structure PD (sz dr dl w h : Int) (rows : List (List Gl)) (r c : Int) : Prop where
  s1 : 1 ≤ sz
  s2 : sz ≤ 80
  d1 : 0 ≤ dr
  d2 : dr < 60
  l1 : 0 ≤ dl
  l2 : dl ≤ 10000
  ck : qbo w h rows r c = 0
theorem properD_iff {sz dr dl w h : Int} {rows : List (List Gl)} {r c : Int} : qhx sz dr dl w h rows r c = true ↔ PD sz dr dl w h rows r c := by
  unfold qhx
  simp only [Bool.and_eq_true, decide_eq_true_eq]
  exact ⟨fun h => ⟨h.1.1.1.1.1.1, h.1.1.1.1.1.2, h.1.1.1.1.2, h.1.1.1.2, h.1.1.2, h.1.2, h.2⟩, fun h => ⟨⟨⟨⟨⟨⟨h.s1, h.s2⟩, h.d1⟩, h.d2⟩, h.l1⟩, h.l2⟩, h.ck⟩⟩
theorem qib {g : Gl} (h : glyZ g = 0) : zbl g.s := by
  unfold glyZ at h
  split at h
  · omega
  · rename_i h1
    exact (check_iff.1 (Classical.byContradiction h1)).1
theorem PV.vg {w h : Int} {rows : List (List Gl)} {r c : Int} (p : PV w h rows r c) {l : List Gl} (hl : l ∈ rows) : VG l := fun g hg => qib ((p.rows l hl).1 g hg)
theorem qh5 {l : List Gl} (h : SmallR l) : (wordG l).length ≤ 5600 := by
  obtain ⟨h1, h2⟩ := h
  have : ∀ l : List Gl, (∀ g ∈ l, g.s.length ≤ 40) → (wordG l).length ≤ 40 * l.length := by
    intro l
    induction l with
    | nil => intro _; simp [wordG]
    | cons g l ih =>
      intro h
      rw [zb8, List.length_append, List.length_cons]
      have := h g List.mem_cons_self
      have := ih fun x hx => h x (List.mem_cons_of_mem _ hx)
      omega
  have := this l h2
  omega
def ppropL : Law := ⟨fun ts => ∃ (sz : Int) (dr : Int) (dl : Int) (df : Bool) (w : Int) (h : Int) (rows : List (List Gl)) (r : Int) (c : Int) (vis : Bool), ts = [.agg [.int sz, .int dr, .int dl, .bool df], .agg [.int w, .int h, rowsT rows, .int r, .int c, .bool vis]] ∧ (SmallV rows), fun ts z₀ => ∀ (sz : Int) (dr : Int) (dl : Int) (df : Bool) (w : Int) (h : Int) (rows : List (List Gl)) (r : Int) (c : Int) (vis : Bool), ts = [.agg [.int sz, .int dr, .int dl, .bool df], .agg [.int w, .int h, rowsT rows, .int r, .int c, .bool vis]] → z₀ = .bool (qhx sz dr dl w h rows r c)⟩
theorem pprop_pre {sz : Int} {dr : Int} {dl : Int} {df : Bool} {w : Int} {h : Int} {rows : List (List Gl)} {r : Int} {c : Int} {vis : Bool} (h₀ : SmallV rows) : ppropL.pre [.agg [.int sz, .int dr, .int dl, .bool df], .agg [.int w, .int h, rowsT rows, .int r, .int c, .bool vis]] := ⟨sz, dr, dl, df, w, h, rows, r, c, vis, rfl, h₀⟩
theorem pprop_fin {sz : Int} {dr : Int} {dl : Int} {df : Bool} {w : Int} {h : Int} {rows : List (List Gl)} {r : Int} {c : Int} {vis : Bool} {z₀ : TV} (h₀ : z₀ = .bool (qhx sz dr dl w h rows r c)) : ppropL.post [.agg [.int sz, .int dr, .int dl, .bool df], .agg [.int w, .int h, rowsT rows, .int r, .int c, .bool vis]] z₀ := fun sz₁ dr₁ dl₁ df₁ w₁ h₁ rows₁ r₁ c₁ vis₁ e => by
  simp only [List.cons.injEq, TV.str.injEq, TV.int.injEq, TV.bool.injEq, TV.agg.injEq, TV.list.injEq, zat, and_true, true_and, and_assoc, rowsT_eq] at e; obtain ⟨rfl, rfl, rfl, rfl, rfl, rfl, rfl, rfl, rfl, rfl⟩ := e
  exact h₀
theorem pprop_all {sz : Int} {dr : Int} {dl : Int} {df : Bool} {w : Int} {h : Int} {rows : List (List Gl)} {r : Int} {c : Int} {vis : Bool} {Q : TV → Prop} : (∀ z₀, ppropL.post [.agg [.int sz, .int dr, .int dl, .bool df], .agg [.int w, .int h, rowsT rows, .int r, .int c, .bool vis]] z₀ → Q z₀) ↔ Q (.bool (qhx sz dr dl w h rows r c)) := ⟨fun h₀ => h₀ _ (pprop_fin rfl), fun h₀ z₀ hr => by rw [hr _ _ _ _ _ _ _ _ _ _ rfl]; exact h₀⟩
theorem pprop_c (k : Nat) : Contract Tryz.prog (mkEnv globT []) gtabU (qb4 k) ppropL.pre ppropL.post := Contract.env (Γ := mkEnv globT [pckL]) (contract_display_proper (fun _ => rfl) (fun s hs => by
    simp only [cx_display_proper, List.mem_cons, List.not_mem_nil, or_false] at hs
    rcases hs with rfl
    · exact Contract.inEnv rfl (pck_c 0) rfl) k (by
  rintro ts hl ⟨sz, dr, dl, df, w, h, rows, r, c, vis, rfl, hp⟩
  have hfin : ∀ z₀ : TV, z₀ = .bool (qhx sz dr dl w h rows r c) → ppropL.post [.agg [.int sz, .int dr, .int dl, .bool df], .agg [.int w, .int h, rowsT rows, .int r, .int c, .bool vis]] z₀ := fun z₀ hz₀ => pprop_fin hz₀
  generalize ppropL.post [.agg [.int sz, .int dr, .int dl, .bool df], .agg [.int w, .int h, rowsT rows, .int r, .int c, .bool vis]] = R at hfin ⊢
  unfold tr_display_proper
  unfold qhx at hfin
  simp only [Tree.den, E.den, P1.den, P2.den, P3.den, qa, qb, qc, qd, qe, qf, qg, qh, zac, zab, zad, zaa, zae, TV.cell, zah, zai, zag, zaf, qi, qj, qk, ql, qm, qn, ne_eq, qo, qp, forall_eq, qs, qt, Int.reduceToNat, qu, exists_eq_left', pck_all]
  refine ⟨fun h1 => ⟨fun h2 => ⟨fun h3 => ⟨fun h4 => ⟨fun h5 => ⟨fun h6 => ⟨pck_pre hp, hfin _ ?_⟩, fun h6 => hfin _ ?_⟩, fun h5 => hfin _ ?_⟩, fun h4 => hfin _ ?_⟩, fun h3 => hfin _ ?_⟩, fun h2 => hfin _ ?_⟩, fun h1 => hfin _ ?_⟩
  · rw [decide_eq_true h1, decide_eq_true h2, decide_eq_true h3, decide_eq_true h4, decide_eq_true h5, decide_eq_true h6]
    simp only [Bool.true_and]
    congr 1
  · rw [decide_eq_false h6]; simp
  · rw [decide_eq_false h5]; simp
  · rw [decide_eq_false h4]; simp
  · rw [decide_eq_false h3]; simp
  · rw [decide_eq_false h2]; simp
  · rw [decide_eq_false h1]; simp)) rfl
def pcurL : Law := ⟨fun ts => ∃ (sz : Int) (dr : Int) (dl : Int) (df : Bool) (w : Int) (h : Int) (rows : List (List Gl)) (r : Int) (c : Int) (vis : Bool), ts = [.agg [.int sz, .int dr, .int dl, .bool df], .agg [.int w, .int h, rowsT rows, .int r, .int c, .bool vis]] ∧ (1 ≤ h ∧ h ≤ 1000), fun ts z₀ => ∀ (sz : Int) (dr : Int) (dl : Int) (df : Bool) (w : Int) (h : Int) (rows : List (List Gl)) (r : Int) (c : Int) (vis : Bool), ts = [.agg [.int sz, .int dr, .int dl, .bool df], .agg [.int w, .int h, rowsT rows, .int r, .int c, .bool vis]] → z₀ = .int (min dr (h - 1))⟩
theorem pcur_pre {sz : Int} {dr : Int} {dl : Int} {df : Bool} {w : Int} {h : Int} {rows : List (List Gl)} {r : Int} {c : Int} {vis : Bool} (h₀ : 1 ≤ h ∧ h ≤ 1000) : pcurL.pre [.agg [.int sz, .int dr, .int dl, .bool df], .agg [.int w, .int h, rowsT rows, .int r, .int c, .bool vis]] := ⟨sz, dr, dl, df, w, h, rows, r, c, vis, rfl, h₀⟩
theorem pcur_fin {sz : Int} {dr : Int} {dl : Int} {df : Bool} {w : Int} {h : Int} {rows : List (List Gl)} {r : Int} {c : Int} {vis : Bool} {z₀ : TV} (h₀ : z₀ = .int (min dr (h - 1))) : pcurL.post [.agg [.int sz, .int dr, .int dl, .bool df], .agg [.int w, .int h, rowsT rows, .int r, .int c, .bool vis]] z₀ := fun sz₁ dr₁ dl₁ df₁ w₁ h₁ rows₁ r₁ c₁ vis₁ e => by
  simp only [List.cons.injEq, TV.str.injEq, TV.int.injEq, TV.bool.injEq, TV.agg.injEq, TV.list.injEq, zat, and_true, true_and, and_assoc, rowsT_eq] at e; obtain ⟨rfl, rfl, rfl, rfl, rfl, rfl, rfl, rfl, rfl, rfl⟩ := e
  exact h₀
theorem pcur_all {sz : Int} {dr : Int} {dl : Int} {df : Bool} {w : Int} {h : Int} {rows : List (List Gl)} {r : Int} {c : Int} {vis : Bool} {Q : TV → Prop} : (∀ z₀, pcurL.post [.agg [.int sz, .int dr, .int dl, .bool df], .agg [.int w, .int h, rowsT rows, .int r, .int c, .bool vis]] z₀ → Q z₀) ↔ Q (.int (min dr (h - 1))) := ⟨fun h₀ => h₀ _ (pcur_fin rfl), fun h₀ z₀ hr => by rw [hr _ _ _ _ _ _ _ _ _ _ rfl]; exact h₀⟩
theorem pcur_c (k : Nat) : Contract Tryz.prog (mkEnv globT []) gtabU (qcc k) pcurL.pre pcurL.post := Contract.env (Γ := mkEnv globT []) (contract_display_current (fun _ => rfl) (fun s hs => by
    cases hs) k (by
  rintro ts hl ⟨sz, dr, dl, df, w, h, rows, r, c, vis, rfl, hp⟩
  have hfin : ∀ z₀ : TV, z₀ = .int (min dr (h - 1)) → pcurL.post [.agg [.int sz, .int dr, .int dl, .bool df], .agg [.int w, .int h, rowsT rows, .int r, .int c, .bool vis]] z₀ := fun z₀ hz₀ => pcur_fin hz₀
  generalize pcurL.post [.agg [.int sz, .int dr, .int dl, .bool df], .agg [.int w, .int h, rowsT rows, .int r, .int c, .bool vis]] = R at hfin ⊢
  unfold tr_display_current
  have e : IntKind.wrap .i64 (h - 1) = h - 1 := wrap_i64 (by omega) (by omega)
  simp only [Tree.den, E.den, P1.den, P2.den, P3.den, qa, qb, qc, qd, qe, qf, qg, qh, zac, zab, zad, zaa, zae, TV.cell, zah, zai, zag, zaf, qi, qj, qk, ql, qm, qn, ne_eq, qo, qp, forall_eq, qs, qt, Int.reduceToNat, qu, exists_eq_left', e]
  exact hfin _ rfl)) rfl
def rw' (rows : List (List Gl)) (r : Int) : List Gl := rr rows r.toNat
noncomputable def curV (l : List Gl) (c : Int) (k : Bool) : Int := zdk (brC l k) (brS l k) (idxG l c)
theorem qh9 {l : List (List Gl)} {i : Int} (h0 : 0 ≤ i) (h : i < l.length) : (l.map glsT).getD i.toNat (.int 0) = glsT (rw' l i) := qbv (by omega)
theorem rw_mem {l : List (List Gl)} {i : Int} (h0 : 0 ≤ i) (h : i < l.length) : rw' l i ∈ l := rr_mem (by omega)
def pcursorL : Law := ⟨fun ts => ∃ (w : Int) (h : Int) (rows : List (List Gl)) (r : Int) (c : Int) (vis : Bool) (sa : Int) (sb : Bool) (sc : Bool) (sd : Int) (sk : Bool) (sn : Int), ts = [.agg [.int w, .int h, rowsT rows, .int r, .int c, .bool vis], .agg [.int sa, .bool sb, .bool sc, .int sd, .bool sk, .int sn]] ∧ (SmallV rows ∧ 0 ≤ r ∧ r < rows.length ∧ c ≤ 1000), fun ts z₀ => ∀ (w : Int) (h : Int) (rows : List (List Gl)) (r : Int) (c : Int) (vis : Bool) (sa : Int) (sb : Bool) (sc : Bool) (sd : Int) (sk : Bool) (sn : Int), ts = [.agg [.int w, .int h, rowsT rows, .int r, .int c, .bool vis], .agg [.int sa, .bool sb, .bool sc, .int sd, .bool sk, .int sn]] → z₀ = .int (curV (rw' rows r) c sk)⟩
theorem pcursor_pre {w : Int} {h : Int} {rows : List (List Gl)} {r : Int} {c : Int} {vis : Bool} {sa : Int} {sb : Bool} {sc : Bool} {sd : Int} {sk : Bool} {sn : Int} (h₀ : SmallV rows ∧ 0 ≤ r ∧ r < rows.length ∧ c ≤ 1000) : pcursorL.pre [.agg [.int w, .int h, rowsT rows, .int r, .int c, .bool vis], .agg [.int sa, .bool sb, .bool sc, .int sd, .bool sk, .int sn]] := ⟨w, h, rows, r, c, vis, sa, sb, sc, sd, sk, sn, rfl, h₀⟩
theorem qid {w : Int} {h : Int} {rows : List (List Gl)} {r : Int} {c : Int} {vis : Bool} {sa : Int} {sb : Bool} {sc : Bool} {sd : Int} {sk : Bool} {sn : Int} {z₀ : TV} (h₀ : z₀ = .int (curV (rw' rows r) c sk)) : pcursorL.post [.agg [.int w, .int h, rowsT rows, .int r, .int c, .bool vis], .agg [.int sa, .bool sb, .bool sc, .int sd, .bool sk, .int sn]] z₀ := fun w₁ h₁ rows₁ r₁ c₁ vis₁ sa₁ sb₁ sc₁ sd₁ sk₁ sn₁ e => by
  simp only [List.cons.injEq, TV.str.injEq, TV.int.injEq, TV.bool.injEq, TV.agg.injEq, TV.list.injEq, zat, and_true, true_and, and_assoc, rowsT_eq] at e; obtain ⟨rfl, rfl, rfl, rfl, rfl, rfl, rfl, rfl, rfl, rfl, rfl, rfl⟩ := e
  exact h₀
theorem pcursor_all {w : Int} {h : Int} {rows : List (List Gl)} {r : Int} {c : Int} {vis : Bool} {sa : Int} {sb : Bool} {sc : Bool} {sd : Int} {sk : Bool} {sn : Int} {Q : TV → Prop} : (∀ z₀, pcursorL.post [.agg [.int w, .int h, rowsT rows, .int r, .int c, .bool vis], .agg [.int sa, .bool sb, .bool sc, .int sd, .bool sk, .int sn]] z₀ → Q z₀) ↔ Q (.int (curV (rw' rows r) c sk)) := ⟨fun h₀ => h₀ _ (qid rfl), fun h₀ z₀ hr => by rw [hr _ _ _ _ _ _ _ _ _ _ _ _ rfl]; exact h₀⟩
theorem pcursor_c (k : Nat) : Contract Tryz.prog (mkEnv globT []) gtabU (qce k) pcursorL.pre pcursorL.post := Contract.env (Γ := mkEnv globT [ofL, bcellL, pidxL]) (contract_display_cursor (fun _ => rfl) (fun s hs => by
    simp only [cx_display_cursor, List.mem_cons, List.not_mem_nil, or_false] at hs
    rcases hs with rfl | rfl | rfl
    · exact Contract.inEnv rfl ((of_c 0).gt za3) rfl
    · exact Contract.inEnv rfl ((zyq 1).gt za3) rfl
    · exact Contract.inEnv rfl (pidx_c 2) rfl) k (by
  rintro ts hl ⟨w, h, rows, r, c, vis, sa, sb, sc, sd, sk, sn, rfl, hp⟩
  have hfin : ∀ z₀ : TV, z₀ = .int (curV (rw' rows r) c sk) → pcursorL.post [.agg [.int w, .int h, rowsT rows, .int r, .int c, .bool vis], .agg [.int sa, .bool sb, .bool sc, .int sd, .bool sk, .int sn]] z₀ := fun z₀ hz₀ => qid hz₀
  generalize pcursorL.post [.agg [.int w, .int h, rowsT rows, .int r, .int c, .bool vis], .agg [.int sa, .bool sb, .bool sc, .int sd, .bool sk, .int sn]] = R at hfin ⊢
  unfold tr_display_cursor
  obtain ⟨hs, h0, h1, h2⟩ := hp
  have hsr := hs.2 _ (rw_mem h0 h1)
  have hw := qh5 hsr
  have hl := hsr.1
  have hb := z1x (rw' rows r) sk
  have hbs := zym (rw' rows r) sk
  have e : ∀ l k, brT l k = .agg [ints (brC l k), ints (brS l k)] := fun _ _ => rfl
  simp only [Tree.den, E.den, P1.den, P2.den, P3.den, qa, qb, qc, qd, qe, qf, qg, qh, zac, zab, zad, zaa, zae, TV.cell, zah, zai, zag, zaf, qi, qj, qk, ql, qm, qn, ne_eq, qo, qp, forall_eq, qs, qt, Int.reduceToNat, qu, exists_eq_left', qbj, qbh, List.length_map, qh9 h0 h1, zx9, e, pidx_all, zi1]
  exact ⟨h0, h1, ztp ⟨by omega, by omega⟩, pidx_pre ⟨by omega, by omega⟩, zow ⟨by omega, by omega⟩, hfin _ rfl⟩)) rfl
def newT (n : Int) : TV := if n < 1 ∨ 80 < n then .agg [.agg [.int 0, .int 0, .int 0, .bool false], .int 2] else .agg [.agg [.int n, .int 0, .int 0, .bool true], .int 0]
def pnewL : Law := ⟨fun ts => ∃ (n : Int), ts = [.int n] ∧ (True), fun ts z₀ => ∀ (n : Int), ts = [.int n] → z₀ = newT n⟩
theorem pnew_pre {n : Int} (h : True) : pnewL.pre [.int n] := ⟨n, rfl, h⟩
theorem pnew_fin {n : Int} {z₀ : TV} (h : z₀ = newT n) : pnewL.post [.int n] z₀ := fun n₁ e => by
  simp only [List.cons.injEq, TV.str.injEq, TV.int.injEq, TV.bool.injEq, TV.agg.injEq, TV.list.injEq, zat, and_true, true_and, and_assoc] at e; subst e
  exact h
theorem pnew_all {n : Int} {Q : TV → Prop} : (∀ z₀, pnewL.post [.int n] z₀ → Q z₀) ↔ Q (newT n) := ⟨fun h => h _ (pnew_fin rfl), fun h z₀ hr => by rw [hr _ rfl]; exact h⟩
theorem pnew_c (k : Nat) : Contract Tryz.prog (mkEnv globT []) gtabU (qcs k) pnewL.pre pnewL.post := Contract.env (Γ := mkEnv globT []) (contract_display_New (fun _ => rfl) (fun s hs => by
    cases hs) k (by
  rintro ts hl ⟨n, rfl, hp⟩
  have hfin : ∀ z₀ : TV, z₀ = newT n → pnewL.post [.int n] z₀ := fun z₀ hz₀ => pnew_fin hz₀
  generalize pnewL.post [.int n] = R at hfin ⊢
  unfold tr_display_New
  unfold newT at hfin
  simp only [Tree.den, E.den, P1.den, P2.den, P3.den, qa, qb, qc, qd, qe, qf, qg, qh, zac, zab, zad, zaa, zae, TV.cell, zah, zai, zag, zaf, qi, qj, qk, ql, qm, qn, ne_eq, qo, qp, forall_eq, qs, qt, Int.reduceToNat, qu, exists_eq_left']
  exact ⟨fun h => hfin _ (by rw [if_pos (.inl h)]), fun h => ⟨fun h2 => hfin _ (by rw [if_pos (.inr h2)]), fun h2 => hfin _ (by rw [if_neg (by omega)])⟩⟩)) rfl
theorem glyZ_cells {g : Gl} (h : glyZ g = 0) : (cg g).length ≤ 28 := by
  unfold glyZ at h
  split at h
  · omega
  · rename_i h1
    have hc := check_iff.1 (Classical.byContradiction h1)
    have hl := hc.2.len
    unfold cg
    rw [show Go.Proofs.YtlhagkbhojmjpaaGreatDoor.fin (bs g.s) = zbj g.s from by unfold zbj; exact (zej hc.1).2.2.2]
    have := zgp (zbj g.s)
    omega
theorem cells28 : ∀ {l : List Gl}, (∀ g ∈ l, glyZ g = 0) → (zbt l).length ≤ 28 * l.length
  | [], _ => by simp [zbt]
  | g :: l, h => by
    rw [zfb, List.length_append, List.length_cons]
    have := glyZ_cells (h g List.mem_cons_self)
    have := cells28 fun x hx => h x (List.mem_cons_of_mem _ hx)
    omega
theorem br28 {l : List Gl} (h : ∀ g ∈ l, glyZ g = 0) (k : Bool) : (brC l k).length ≤ 28 * l.length := by
  have hv : VG l := fun g hg => qib (h g hg)
  have h1 := cells28 h
  have h2 := br_short hv
  have h3 : brC l false = zbt l := by unfold brC; rw [if_neg (by decide)]
  cases k with
  | true => rw [h3] at h2; omega
  | false => rw [h3]; exact h1
theorem idxR_bd : ∀ (l : List Gl) (col at' : Int) (i : Nat), at' ≤ col → (i : Int) ≤ idxR l col at' i ∧ idxR l col at' i ≤ i + (col - at')
  | [], col, at', i, h => by simp only [idxR]; omega
  | g :: l, col, at', i, h => by
    have hw := wd_bd g
    simp only [idxR]
    split
    · omega
    · have := idxR_bd l col (at' + wd g) (i + 1) (by omega)
      omega
theorem idxG_bd {l : List Gl} {col : Int} (h : 0 ≤ col) : 0 ≤ idxG l col ∧ idxG l col ≤ col := by
  unfold idxG
  rw [if_neg (by omega)]
  have := idxR_bd l col 0 0 h
  omega
theorem len_widG (l : List Gl) : (l.length : Int) ≤ widG l := (qbz l).1
theorem curV_bd {l : List Gl} (h : ∀ g ∈ l, glyZ g = 0) {w c : Int} (hw : widG l ≤ w) (hw2 : w ≤ 132) (h0 : 0 ≤ c) (h1 : c < w) (k : Bool) : 0 ≤ curV l c k ∧ curV l c k ≤ 4000 := by
  have hv : VG l := fun g hg => qib (h g hg)
  have hP := br_PL hv k
  have hlast := z1c l k
  have h28 := br28 h k
  have hlw := len_widG l
  have hi := idxG_bd (l := l) h0
  unfold curV zdk
  rw [if_neg (by rintro (e | e | e) <;> first | exact e hP | omega)]
  split
  · omega
  · have := bestN_le (brS l k) (idxG l c) (brC l k).length
    omega
def showC (c : List Int) (sz dl : Nat) : List Int := (c.drop dl).take (min (c.length - dl) sz) ++ List.replicate (sz - min (c.length - dl) sz) 0
noncomputable def showA (cu sz dr dl h r : Int) (vis : Bool) : Int := if min dr (h - 1) = r ∧ vis = true ∧ 0 ≤ cu - dl ∧ cu - dl < sz then cu - dl else -1
noncomputable def showT (sz dr dl w h : Int) (rows : List (List Gl)) (r c : Int) (vis k : Bool) : TV :=
  if qhx sz dr dl w h rows r c = true then .agg [ints (showC (brC (rw' rows (min dr (h - 1))) k) sz.toNat dl.toNat), .int (showA (curV (rw' rows r) c k) sz dr dl h r vis)] else .agg [ints [], .int (-1)]
theorem rep_ints (n : Nat) : List.replicate n (TV.int 0) = (List.replicate n (0 : Int)).map TV.int := by rw [List.map_replicate]
def pshowL : Law := ⟨fun ts => ∃ (sz : Int) (dr : Int) (dl : Int) (df : Bool) (w : Int) (h : Int) (rows : List (List Gl)) (r : Int) (c : Int) (vis : Bool) (sa : Int) (sb : Bool) (sc : Bool) (sd : Int) (sk : Bool) (sn : Int), ts = [.agg [.int sz, .int dr, .int dl, .bool df], .agg [.int w, .int h, rowsT rows, .int r, .int c, .bool vis], .agg [.int sa, .bool sb, .bool sc, .int sd, .bool sk, .int sn]] ∧ (SmallV rows), fun ts z₀ => ∀ (sz : Int) (dr : Int) (dl : Int) (df : Bool) (w : Int) (h : Int) (rows : List (List Gl)) (r : Int) (c : Int) (vis : Bool) (sa : Int) (sb : Bool) (sc : Bool) (sd : Int) (sk : Bool) (sn : Int), ts = [.agg [.int sz, .int dr, .int dl, .bool df], .agg [.int w, .int h, rowsT rows, .int r, .int c, .bool vis], .agg [.int sa, .bool sb, .bool sc, .int sd, .bool sk, .int sn]] → z₀ = showT sz dr dl w h rows r c vis sk⟩
theorem pshow_pre {sz : Int} {dr : Int} {dl : Int} {df : Bool} {w : Int} {h : Int} {rows : List (List Gl)} {r : Int} {c : Int} {vis : Bool} {sa : Int} {sb : Bool} {sc : Bool} {sd : Int} {sk : Bool} {sn : Int} (h₀ : SmallV rows) : pshowL.pre [.agg [.int sz, .int dr, .int dl, .bool df], .agg [.int w, .int h, rowsT rows, .int r, .int c, .bool vis], .agg [.int sa, .bool sb, .bool sc, .int sd, .bool sk, .int sn]] := ⟨sz, dr, dl, df, w, h, rows, r, c, vis, sa, sb, sc, sd, sk, sn, rfl, h₀⟩
theorem pshow_fin {sz : Int} {dr : Int} {dl : Int} {df : Bool} {w : Int} {h : Int} {rows : List (List Gl)} {r : Int} {c : Int} {vis : Bool} {sa : Int} {sb : Bool} {sc : Bool} {sd : Int} {sk : Bool} {sn : Int} {z₀ : TV} (h₀ : z₀ = showT sz dr dl w h rows r c vis sk) : pshowL.post [.agg [.int sz, .int dr, .int dl, .bool df], .agg [.int w, .int h, rowsT rows, .int r, .int c, .bool vis], .agg [.int sa, .bool sb, .bool sc, .int sd, .bool sk, .int sn]] z₀ := fun sz₁ dr₁ dl₁ df₁ w₁ h₁ rows₁ r₁ c₁ vis₁ sa₁ sb₁ sc₁ sd₁ sk₁ sn₁ e => by
  simp only [List.cons.injEq, TV.str.injEq, TV.int.injEq, TV.bool.injEq, TV.agg.injEq, TV.list.injEq, zat, and_true, true_and, and_assoc, rowsT_eq] at e; obtain ⟨rfl, rfl, rfl, rfl, rfl, rfl, rfl, rfl, rfl, rfl, rfl, rfl, rfl, rfl, rfl, rfl⟩ := e
  exact h₀
theorem pshow_all {sz : Int} {dr : Int} {dl : Int} {df : Bool} {w : Int} {h : Int} {rows : List (List Gl)} {r : Int} {c : Int} {vis : Bool} {sa : Int} {sb : Bool} {sc : Bool} {sd : Int} {sk : Bool} {sn : Int} {Q : TV → Prop} : (∀ z₀, pshowL.post [.agg [.int sz, .int dr, .int dl, .bool df], .agg [.int w, .int h, rowsT rows, .int r, .int c, .bool vis], .agg [.int sa, .bool sb, .bool sc, .int sd, .bool sk, .int sn]] z₀ → Q z₀) ↔ Q (showT sz dr dl w h rows r c vis sk) := ⟨fun h₀ => h₀ _ (pshow_fin rfl), fun h₀ z₀ hr => by rw [hr _ _ _ _ _ _ _ _ _ _ _ _ _ _ _ _ rfl]; exact h₀⟩
theorem pshow_c (k : Nat) : Contract Tryz.prog (mkEnv globT []) gtabU (qca k) pshowL.pre pshowL.post := Contract.env (Γ := mkEnv globT [ofL, ppropL, pcurL, pcursorL]) (contract_display_Show (fun _ => rfl) (fun s hs => by
    simp only [cx_display_Show, List.mem_cons, List.not_mem_nil, or_false] at hs
    rcases hs with rfl | rfl | rfl | rfl
    · exact Contract.inEnv rfl ((of_c 0).gt za3) rfl
    · exact Contract.inEnv rfl (pprop_c 1) rfl
    · exact Contract.inEnv rfl (pcur_c 2) rfl
    · exact Contract.inEnv rfl (pcursor_c 3) rfl) k (by
  rintro ts hl ⟨sz, dr, dl, df, w, h, rows, r, c, vis, sa, sb, sc, sd, sk, sn, rfl, hp⟩
  have hfin : ∀ z₀ : TV, z₀ = showT sz dr dl w h rows r c vis sk → pshowL.post [.agg [.int sz, .int dr, .int dl, .bool df], .agg [.int w, .int h, rowsT rows, .int r, .int c, .bool vis], .agg [.int sa, .bool sb, .bool sc, .int sd, .bool sk, .int sn]] z₀ := fun z₀ hz₀ => pshow_fin hz₀
  generalize pshowL.post [.agg [.int sz, .int dr, .int dl, .bool df], .agg [.int w, .int h, rowsT rows, .int r, .int c, .bool vis], .agg [.int sa, .bool sb, .bool sc, .int sd, .bool sk, .int sn]] = R at hfin ⊢
  unfold tr_display_Show
  unfold showT at hfin
  have e : ∀ l k, brT l k = .agg [ints (brC l k), ints (brS l k)] := fun _ _ => rfl
  cases hq : qhx sz dr dl w h rows r c with
  | false =>
    rw [if_neg (by rw [hq]; decide)] at hfin
    simp only [Tree.den, E.den, P1.den, P2.den, P3.den, qa, qb, qc, qd, qe, qf, qg, qh, zac, zab, zad, zaa, zae, TV.cell, zah, zai, zag, zaf, qi, qj, qk, ql, qm, qn, ne_eq, qo, qp, forall_eq, qs, qt, Int.reduceToNat, qu, exists_eq_left', pprop_all, hq]
    exact ⟨pprop_pre hp, fun _ => hfin _ rfl, fun h => absurd h (by simp)⟩
  | true =>
    rw [if_pos hq] at hfin
    have P := properD_iff.1 hq
    have V := proper_view P.ck
    have a1 := P.s1; have a2 := P.s2; have a3 := P.d1; have a4 := P.d2; have a5 := P.l1; have a6 := P.l2
    have b1 := V.h1; have b2 := V.h2; have b3 := V.len; have b4 := V.r1; have b5 := V.r2; have b6 := V.c1; have b7 := V.c2; have b8 := V.w2
    have hrow0 : 0 ≤ min dr (h - 1) := by omega
    have hrow1 : min dr (h - 1) < rows.length := by omega
    have hmr := rw_mem hrow0 hrow1
    have hsr := hp.2 _ hmr
    have hw := qh5 hsr
    have hl := hsr.1
    have hcb := z1x (rw' rows (min dr (h - 1))) sk
    have hcu := curV_bd (V.rows _ (rw_mem b4 (by omega))).1 (V.rows _ (rw_mem b4 (by omega))).2 b8 b6 b7 sk
    have q1 := pcursor_pre (w := w) (h := h) (vis := vis) (sa := sa) (sb := sb) (sc := sc) (sd := sd) (sk := sk) (sn := sn) (rows := rows) (r := r) (c := c) ⟨hp, b4, by omega, by omega⟩
    have q2 : pcurL.pre [.agg [.int sz, .int dr, .int dl, .bool df], .agg [.int w, .int h, rowsT rows, .int r, .int c, .bool vis]] := pcur_pre ⟨by omega, by omega⟩
    have q3 := ztp (l := rw' rows (min dr (h - 1))) (a := sa) (b := sb) (c := sc) (d := sd) (k := sk) (n := sn) ⟨by omega, by omega⟩
    simp only [Tree.den, E.den, P1.den, P2.den, P3.den, qa, qb, qc, qd, qe, qf, qg, qh, zac, zab, zad, zaa, zae, TV.cell, zah, zai, zag, zaf, qi, qj, qk, ql, qm, qn, ne_eq, qo, qp, forall_eq, qs, qt, Int.reduceToNat, qu, exists_eq_left', pprop_all, hq, pcur_all, qbj, qbh, List.length_map, qh9 hrow0 hrow1, zx9, e, pcursor_all]
    simp only [Tree.den, E.den, P1.den, P2.den, P3.den, qa, qb, qc, qd, qe, qf, qg, qh, zac, zab, zad, zaa, zae, TV.cell, zah, zai, zag, zaf, qi, qj, qk, ql, qm, qn, ne_eq, qo, qp, forall_eq, qs, qt, Int.reduceToNat, qu, exists_eq_left', zaj, zao, zaq, zan, zap, zam, zal, zar, qv, qq, qr, zak]
    generalize hC : brC (rw' rows (min dr (h - 1))) sk = C at *
    generalize hcv : curV (rw' rows r) c sk = cu at *
    have ew : IntKind.wrap .i64 (cu - dl) = cu - dl := wrap_i64 (by omega) (by omega)
    have hsh : ∀ x : TV, ¬ (min dr (h - 1) = r ∧ vis = true ∧ 0 ≤ cu - dl ∧ cu - dl < sz) → x = ints (showC C sz.toNat dl.toNat) → R (.agg [x, .int (-1)]) := fun x h1 h2 => hfin _ (by rw [h2]; unfold showA; rw [if_neg h1])
    have hsy : ∀ x : TV, (min dr (h - 1) = r ∧ vis = true ∧ 0 ≤ cu - dl ∧ cu - dl < sz) → x = ints (showC C sz.toNat dl.toNat) → R (.agg [x, .int (cu - dl)]) := fun x h1 h2 => hfin _ (by rw [h2]; unfold showA; rw [if_pos h1])
    simp only [ew]
    refine ⟨pprop_pre hp, fun h => absurd h (by simp), fun _ => ⟨q2, by omega, by omega, q3, by omega, by omega, by omega, fun hlt => ⟨by omega, by omega, q1, ?_⟩, fun hge => ⟨q1, ?_⟩⟩⟩
    · have hx : TV.list (List.take ((min (((List.take (C.length - dl.toNat) (List.drop dl.toNat (List.map TV.int C))).length : Nat) : Int) (((List.replicate sz.toNat (TV.int 0)).length : Nat) : Int)).toNat - (0 : Int).toNat) (List.drop (0 : Int).toNat (List.take (C.length - dl.toNat) (List.drop dl.toNat (List.map TV.int C)))) ++
          List.take ((((List.replicate sz.toNat (TV.int 0)).length : Nat) : Int).toNat - (min (((List.take (C.length - dl.toNat) (List.drop dl.toNat (List.map TV.int C))).length : Nat) : Int) (((List.replicate sz.toNat (TV.int 0)).length : Nat) : Int)).toNat) (List.drop (min (((List.take (C.length - dl.toNat) (List.drop dl.toNat (List.map TV.int C))).length : Nat) : Int) (((List.replicate sz.toNat (TV.int 0)).length : Nat) : Int)).toNat (List.replicate sz.toNat (TV.int 0)))) = ints (showC C sz.toNat dl.toNat) := by
        have e1 : (List.take (C.length - dl.toNat) (List.drop dl.toNat (List.map TV.int C))) = (C.drop dl.toNat).map TV.int := by
          rw [← List.map_drop, List.take_of_length_le (by rw [List.length_map, List.length_drop]; omega)]
        rw [e1, List.length_map, List.length_drop, List.length_replicate]
        have e2 : (min ((C.length - dl.toNat : Nat) : Int) ((sz.toNat : Nat) : Int)).toNat = min (C.length - dl.toNat) sz.toNat := by omega
        rw [e2, Int.toNat_natCast, Int.toNat_zero, Nat.sub_zero, List.drop_zero, List.drop_replicate, List.take_replicate, Nat.min_self, rep_ints]
        unfold showC ints
        rw [List.map_append, List.map_take]
      repeat' (first
        | (refine hsy _ ⟨by assumption, by assumption, by assumption, by assumption⟩ ?_; exact hx)
        | (refine hsh _ (fun hh => by first | (exact absurd hh.1 (by assumption)) | (exact absurd hh.2.2.1 (by assumption)) | (exact absurd hh.2.2.2 (by assumption)) | (have := hh.2.1; simp_all)) ?_; exact hx)
        | (refine ⟨fun _ => ?_, fun _ => ?_⟩))
    · have hx : TV.list (List.replicate sz.toNat (TV.int 0)) = ints (showC C sz.toNat dl.toNat) := by
        have e1 : C.length - dl.toNat = 0 := by omega
        unfold showC ints
        rw [e1, Nat.zero_min, List.take_zero, List.nil_append, Nat.sub_zero, rep_ints]
      repeat' (first
        | (refine hsy _ ⟨by assumption, by assumption, by assumption, by assumption⟩ ?_; exact hx)
        | (refine hsh _ (fun hh => by first | (exact absurd hh.1 (by assumption)) | (exact absurd hh.2.2.1 (by assumption)) | (exact absurd hh.2.2.2 (by assumption)) | (have := hh.2.1; simp_all)) ?_; exact hx)
        | (refine ⟨fun _ => ?_, fun _ => ?_⟩)))) rfl
end Go.Proofs.YtlhagkbhojmjpaaGreatDoor

