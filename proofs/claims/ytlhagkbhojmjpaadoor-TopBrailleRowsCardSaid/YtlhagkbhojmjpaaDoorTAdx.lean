/- Written by this repo's own program out of its texts. -/
import Derived.Test.YtlhagkbhojmjpaaDoorTDiv
import Derived.Test.YtlhagkbhojmjpaaDoorTMov
namespace Go.Proofs.YtlhagkbhojmjpaaDoor
set_option linter.unusedSimpArgs false
set_option linter.unusedVariables false
set_option linter.unusedSectionVars false
noncomputable def panT (sz dr dl : Int) (df : Bool) (w h : Int) (rows : List (List Gl)) (r c : Int) (k : Bool) (b : Int) : TV :=
  if qhx sz dr dl w h rows r c = true then movT sz dr dl false rows k b else .agg [.int sz, .int dr, .int dl, .bool df]
def ppanL : Law := ⟨fun ts => ∃ (sz : Int) (dr : Int) (dl : Int) (df : Bool) (w : Int) (h : Int) (rows : List (List Gl)) (r : Int) (c : Int) (vis : Bool) (sa : Int) (sb : Bool) (sc : Bool) (sd : Int) (sk : Bool) (sn : Int) (b : Int), ts = [.agg [.int sz, .int dr, .int dl, .bool df], .agg [.int w, .int h, rowsT rows, .int r, .int c, .bool vis], .agg [.int sa, .bool sb, .bool sc, .int sd, .bool sk, .int sn], .int b] ∧ (SmallV rows), fun ts z₀ => ∀ (sz : Int) (dr : Int) (dl : Int) (df : Bool) (w : Int) (h : Int) (rows : List (List Gl)) (r : Int) (c : Int) (vis : Bool) (sa : Int) (sb : Bool) (sc : Bool) (sd : Int) (sk : Bool) (sn : Int) (b : Int), ts = [.agg [.int sz, .int dr, .int dl, .bool df], .agg [.int w, .int h, rowsT rows, .int r, .int c, .bool vis], .agg [.int sa, .bool sb, .bool sc, .int sd, .bool sk, .int sn], .int b] → z₀ = panT sz dr dl df w h rows r c sk b⟩
theorem ppan_pre {sz : Int} {dr : Int} {dl : Int} {df : Bool} {w : Int} {h : Int} {rows : List (List Gl)} {r : Int} {c : Int} {vis : Bool} {sa : Int} {sb : Bool} {sc : Bool} {sd : Int} {sk : Bool} {sn : Int} {b : Int} (h₀ : SmallV rows) : ppanL.pre [.agg [.int sz, .int dr, .int dl, .bool df], .agg [.int w, .int h, rowsT rows, .int r, .int c, .bool vis], .agg [.int sa, .bool sb, .bool sc, .int sd, .bool sk, .int sn], .int b] := ⟨sz, dr, dl, df, w, h, rows, r, c, vis, sa, sb, sc, sd, sk, sn, b, rfl, h₀⟩
theorem ppan_fin {sz : Int} {dr : Int} {dl : Int} {df : Bool} {w : Int} {h : Int} {rows : List (List Gl)} {r : Int} {c : Int} {vis : Bool} {sa : Int} {sb : Bool} {sc : Bool} {sd : Int} {sk : Bool} {sn : Int} {b : Int} {z₀ : TV} (h₀ : z₀ = panT sz dr dl df w h rows r c sk b) : ppanL.post [.agg [.int sz, .int dr, .int dl, .bool df], .agg [.int w, .int h, rowsT rows, .int r, .int c, .bool vis], .agg [.int sa, .bool sb, .bool sc, .int sd, .bool sk, .int sn], .int b] z₀ := fun sz₁ dr₁ dl₁ df₁ w₁ h₁ rows₁ r₁ c₁ vis₁ sa₁ sb₁ sc₁ sd₁ sk₁ sn₁ b₁ e => by
  simp only [List.cons.injEq, TV.str.injEq, TV.int.injEq, TV.bool.injEq, TV.agg.injEq, TV.list.injEq, zat, and_true, true_and, and_assoc, rowsT_eq] at e; obtain ⟨rfl, rfl, rfl, rfl, rfl, rfl, rfl, rfl, rfl, rfl, rfl, rfl, rfl, rfl, rfl, rfl, rfl⟩ := e
  exact h₀
theorem ppan_all {sz : Int} {dr : Int} {dl : Int} {df : Bool} {w : Int} {h : Int} {rows : List (List Gl)} {r : Int} {c : Int} {vis : Bool} {sa : Int} {sb : Bool} {sc : Bool} {sd : Int} {sk : Bool} {sn : Int} {b : Int} {Q : TV → Prop} : (∀ z₀, ppanL.post [.agg [.int sz, .int dr, .int dl, .bool df], .agg [.int w, .int h, rowsT rows, .int r, .int c, .bool vis], .agg [.int sa, .bool sb, .bool sc, .int sd, .bool sk, .int sn], .int b] z₀ → Q z₀) ↔ Q (panT sz dr dl df w h rows r c sk b) := ⟨fun h₀ => h₀ _ (ppan_fin rfl), fun h₀ z₀ hr => by rw [hr _ _ _ _ _ _ _ _ _ _ _ _ _ _ _ _ _ rfl]; exact h₀⟩
theorem ppan_c (k : Nat) : Contract Tryd.prog (mkEnv globT []) gtabU (qea k) ppanL.pre ppanL.post := Contract.env (Γ := mkEnv globT [pmovL, ppropL]) (contract_display_Pan (fun _ => rfl) (fun s hs => by
    simp only [cx_display_Pan, List.mem_cons, List.not_mem_nil, or_false] at hs
    rcases hs with rfl | rfl
    · exact Contract.inEnv rfl (pmov_c 0) rfl
    · exact Contract.inEnv rfl (pprop_c 1) rfl) k (by
  rintro ts hl ⟨sz, dr, dl, df, w, h, rows, r, c, vis, sa, sb, sc, sd, sk, sn, b, rfl, hp⟩
  have hfin : ∀ z₀ : TV, z₀ = panT sz dr dl df w h rows r c sk b → ppanL.post [.agg [.int sz, .int dr, .int dl, .bool df], .agg [.int w, .int h, rowsT rows, .int r, .int c, .bool vis], .agg [.int sa, .bool sb, .bool sc, .int sd, .bool sk, .int sn], .int b] z₀ := fun z₀ hz₀ => ppan_fin hz₀
  generalize ppanL.post [.agg [.int sz, .int dr, .int dl, .bool df], .agg [.int w, .int h, rowsT rows, .int r, .int c, .bool vis], .agg [.int sa, .bool sb, .bool sc, .int sd, .bool sk, .int sn], .int b] = R at hfin ⊢
  unfold tr_display_Pan
  unfold panT at hfin
  cases hq : qhx sz dr dl w h rows r c with
  | false =>
    rw [if_neg (by rw [hq]; decide)] at hfin
    simp only [Tree.den, E.den, P1.den, P2.den, P3.den, qa, qb, qc, qd, qe, qf, qg, qh, zac, zab, zad, zaa, zae, TV.cell, zah, zai, zag, zaf, qi, qj, qk, ql, qm, qn, ne_eq, qo, qp, forall_eq, qs, qt, Int.reduceToNat, qu, exists_eq_left', pprop_all, hq]
    exact ⟨pprop_pre hp, fun _ => hfin _ rfl, fun h => absurd h (by simp)⟩
  | true =>
    rw [if_pos hq] at hfin
    unfold movT at hfin
    have em : ∀ b, movT sz dr dl df rows sk b = .agg [.int sz, .int ((toW sz.toNat dr.toNat dl.toNat (lensW rows sk) b).1 : Nat), .int ((toW sz.toNat dr.toNat dl.toNat (lensW rows sk) b).2 : Nat), .bool df] := fun _ => rfl
    simp only [Tree.den, E.den, P1.den, P2.den, P3.den, qa, qb, qc, qd, qe, qf, qg, qh, zac, zab, zad, zaa, zae, TV.cell, zah, zai, zag, zaf, qi, qj, qk, ql, qm, qn, ne_eq, qo, qp, forall_eq, qs, qt, Int.reduceToNat, qu, exists_eq_left', pprop_all, hq, pmov_all, em]
    exact ⟨pprop_pre hp, fun h => absurd h (by simp), fun _ => ⟨pmov_pre ⟨hp, hq⟩, hfin _ rfl⟩⟩)) rfl
def winT (sz dr dl : Int) (rows : List (List Gl)) (k : Bool) (b : Int) : Nat × Nat := toW sz.toNat dr.toNat dl.toNat (lensW rows k) b
theorem qiq {sz dr dl w h : Int} {df : Bool} {rows : List (List Gl)} {r c : Int} (hq : qhx sz dr dl w h rows r c = true) (k : Bool) (b : Int) :
    panT sz dr dl df w h rows r c k b = .agg [.int sz, .int ((winT sz dr dl rows k b).1 : Nat), .int ((winT sz dr dl rows k b).2 : Nat), .bool false] := by
  unfold panT
  rw [if_pos hq]
  rfl
theorem qir (rows : List (List Gl)) (k : Bool) : (lensW rows k).length = rows.length := by simp [lensW]
structure PanD (sz dr dl w h : Int) (rows : List (List Gl)) (r c : Int) (k : Bool) (b : Int) : Prop where
  pr : qhx sz ((winT sz dr dl rows k b).1 : Nat) ((winT sz dr dl rows k b).2 : Nat) w h rows r c = true
  lt : ((winT sz dr dl rows k b).1 : Int) < h
  md : (winT sz dr dl rows k b).2 % sz.toNat = 0
end Go.Proofs.YtlhagkbhojmjpaaDoor

