/- Written by this repo's own program out of its texts. -/
import Derived.Test.YtlhagkbhojmjpaaGreatDoorPWw
set_option linter.unusedSimpArgs false
set_option linter.unusedVariables false
set_option linter.unusedSectionVars false
namespace Go.Proofs.YtlhagkbhojmjpaaGreatDoor
def trueL (pre : List TV → Prop) : Law := ⟨pre, fun _ r => r = .bool true⟩
def cwT (l : List Gl) (i : Int) : TV := match findS (segW l) i with
 | some s => .agg [.str (txG (subG l s)), .int 0]
 | none => .agg [.str [], .int 8]
theorem seg_len : ∀ (f : Nat) (l : List Gl) (a : Nat), (segF f l a).length ≤ f
 | 0, _, _ => Nat.le_refl _
 | f + 1, [], _ => Nat.zero_le _
 | f + 1, g :: t, a => by
  have := seg_len f (t.drop (runL (segK g) t)) (a + 1 + runL (segK g) t)
  unfold segF
  dsimp only
  rw [List.length_append]
  have h1 : (if segK g ≠ 0 then [(a, a + 1 + runL (segK g) t)] else []).length ≤ 1 := by
   split
   ·exact Nat.le_refl _
   ·exact Nat.zero_le _
  omega
theorem segW_len (l : List Gl) : (segW l).length ≤ l.length := seg_len _ _ _
def CwI (L : List (Nat × Nat)) (i : Int) (xs : List TV) : Prop := ∃ k : Nat, xs = [.int k] ∧ k ≤ L.length ∧ findS L i = findS (L.drop k) i
def Cwm (L : List (Nat × Nat)) (xs : List TV) : Nat := L.length - (xs.getD 0 (.int 0)).asInt.toNat
theorem find_cons (s : Nat × Nat) (L : List (Nat × Nat)) (i : Int) : findS (s :: L) i = if (s.1 : Int) ≤ i ∧ i < (s.2 : Int) then some s else findS L i := by
 unfold findS
 rw [List.find?_cons]
 by_cases h : (s.1 : Int) ≤ i ∧ i < (s.2 : Int)
 ·rw [decide_eq_true h, if_pos h]
 ·rw [decide_eq_false h, if_neg h]
theorem good_of {g : Gl} (h : glyZ g = 0) : zbf g.s = 0 ∧ 0 ≤ g.y ∧ g.y ≤ 3 := by
 unfold glyZ at h
 split at h
 ·omega
 ·rename_i hc
  split at h
  ·omega
  ·rename_i h2
   exact ⟨Classical.byContradiction hc, by omega, by omega⟩
theorem gly_len {g : Gl} (h : glyZ g = 0) : g.s.length ≤ 16 := clus_len (good_of h).1
theorem tx_len' : ∀ {l : List Gl}, (∀ g ∈ l, glyZ g = 0) → (txG l).length ≤ 16 * l.length
 | [], _ => Nat.zero_le _
 | g :: l, h => by
  have h1 := gly_len (h g (.head _))
  have h2 := tx_len' (l := l) fun x hx => h x (.tail _ hx)
  show (g.s ++ txG l).length ≤ _
  rw [List.length_append, List.length_cons]; omega
theorem sub_len (l : List Gl) (s : Nat × Nat) : (subG l s).length ≤ l.length := by
 unfold subG
 rw [List.length_take, List.length_drop]; omega
theorem sub_mem {l : List Gl} {s : Nat × Nat} {g : Gl} (h : g ∈ subG l s) : g ∈ l := List.mem_of_mem_drop (List.mem_of_mem_take h)
theorem sub_good {l : List Gl} (hl : ∀ g ∈ l, glyZ g = 0) {s : Nat × Nat} (hs : s ∈ segW l) : gooG (subG l s) := fun g hg => by
 obtain ⟨h1, h2, h3⟩ := good_of (hl g (sub_mem hg))
 refine ⟨h1, h2, h3, fun e => (segW_ok l s hs).2.2 g hg ?_⟩
 unfold segK
 rw [if_pos (.inr e)]
def cwordL : Law := ⟨fun ts => ∃ (w : Int) (h : Int) (rows : List (List Gl)) (r : Int) (c : Int) (vis : Bool) (row : Int) (col : Int), ts = [.agg [.int w, .int h, rowsT rows, .int r, .int c, .bool vis], .int row, .int col] ∧ (SmallV rows ∧ qbo w h rows r c = 0 ∧ 0 ≤ row ∧ row < h ∧ 0 ≤ col ∧ col ≤ w), fun ts z₀ => ∀ (w : Int) (h : Int) (rows : List (List Gl)) (r : Int) (c : Int) (vis : Bool) (row : Int) (col : Int), ts = [.agg [.int w, .int h, rowsT rows, .int r, .int c, .bool vis], .int row, .int col] → z₀ = cwT (rr rows row.toNat) (min (idxG (rr rows row.toNat) col) (rr rows row.toNat).length)⟩
theorem cword_pre {w : Int} {h : Int} {rows : List (List Gl)} {r : Int} {c : Int} {vis : Bool} {row : Int} {col : Int} (h₀ : SmallV rows ∧ qbo w h rows r c = 0 ∧ 0 ≤ row ∧ row < h ∧ 0 ≤ col ∧ col ≤ w) : cwordL.pre [.agg [.int w, .int h, rowsT rows, .int r, .int c, .bool vis], .int row, .int col] := ⟨w, h, rows, r, c, vis, row, col, rfl, h₀⟩
theorem cword_fin {w : Int} {h : Int} {rows : List (List Gl)} {r : Int} {c : Int} {vis : Bool} {row : Int} {col : Int} {z₀ : TV} (h₀ : z₀ = cwT (rr rows row.toNat) (min (idxG (rr rows row.toNat) col) (rr rows row.toNat).length)) : cwordL.post [.agg [.int w, .int h, rowsT rows, .int r, .int c, .bool vis], .int row, .int col] z₀ := fun w₁ h₁ rows₁ r₁ c₁ vis₁ row₁ col₁ e => by
 simp only [qy, rowsT_eq] at e; obtain ⟨rfl, rfl, rfl, rfl, rfl, rfl, rfl, rfl⟩ := e
 exact h₀
theorem cword_all {w : Int} {h : Int} {rows : List (List Gl)} {r : Int} {c : Int} {vis : Bool} {row : Int} {col : Int} {Q : TV → Prop} : (∀ z₀, cwordL.post [.agg [.int w, .int h, rowsT rows, .int r, .int c, .bool vis], .int row, .int col] z₀ → Q z₀) ↔ Q (cwT (rr rows row.toNat) (min (idxG (rr rows row.toNat) col) (rr rows row.toNat).length)) := ⟨fun h₀ => h₀ _ (cword_fin rfl), fun h₀ z₀ hr => by rw [hr _ _ _ _ _ _ _ _ rfl]; exact h₀⟩
theorem cword_c (k : Nat) : Contract Tryz.prog (mkEnv globT []) gtabU (q47 k) cwordL.pre cwordL.post := Contract.env (Γ := mkEnv globT [swdL, pckL, vtextL, cposL, cidxL]) (contract_clipping_Word (fun _ => rfl) (fun s hs => by
  simp only [cx_clipping_Word, List.mem_cons, List.not_mem_nil, or_false] at hs
  rcases hs with rfl | rfl | rfl | rfl | rfl
  ·exact Contract.inEnv rfl (swd_c 0) rfl
  ·exact Contract.inEnv rfl (pck_c 1) rfl
  ·exact Contract.inEnv rfl (vtext_c 2) rfl
  ·exact Contract.inEnv rfl (cpos_c 3) rfl
  ·exact Contract.inEnv rfl (cidx_c 4) rfl) k (by
 rintro ts hl ⟨w, h, rows, r, c, vis, row, col, rfl, hp⟩
 have hfin : ∀ z₀ : TV, z₀ = cwT (rr rows row.toNat) (min (idxG (rr rows row.toNat) col) (rr rows row.toNat).length) → cwordL.post [.agg [.int w, .int h, rowsT rows, .int r, .int c, .bool vis], .int row, .int col] z₀ := fun z₀ hz₀ => cword_fin hz₀
 generalize cwordL.post [.agg [.int w, .int h, rowsT rows, .int r, .int c, .bool vis], .int row, .int col] = R at hfin ⊢
 unfold tr_clipping_Word
 obtain ⟨hs, hc, hr0, hrh, hc0, hcw⟩ := hp
 have V := proper_view hc
 have v1 := V.len; have v2 := V.w2
 obtain ⟨k, rfl⟩ : ∃ k : Nat, row = k := ⟨row.toNat, by omega⟩
 have hk : k < rows.length := by omega
 have hrow := V.rows _ (rr_mem hk)
 have hsm := hs.2 _ (rr_mem hk)
 have hsl := hsm.1
 have htx := fun s => tx_len' (l := subG (rr rows k) s) fun g hg => hrow.1 g (sub_mem hg)
 have hdec : decide (0 ≤ (k : Int) ∧ (k : Int) < h ∧ 0 ≤ col ∧ col ≤ w) = true := decide_eq_true (by omega)
 simp only [Tree.den, E.den, P1.den, P2.den, P3.den, TV.cell, ne_eq, forall_eq, Int.reduceToNat, exists_eq_left', qz, pck_all, cpos_all, cidx_all, swd_all, hc, hdec, qbh, qbj, Int.toNat_natCast, qbv hk, List.length_map, zaw]
 have hok := segW_ok (rr rows k)
 have hsn := segW_len (rr rows k)
 rw [Int.toNat_natCast] at hfin
 unfold cwT at hfin
 generalize segW (rr rows k) = L at hok hsn hfin ⊢
 generalize min (idxG (rr rows k) col) ((rr rows k).length : Int) = i at hfin ⊢
 refine ⟨pck_pre hs, fun h => absurd trivial h, fun _ => ⟨cpos_pre trivial, fun h => h.elim, fun _ => ⟨by omega, by omega, cidx_pre ⟨by omega, by omega⟩, swd_pre (by omega), CwI L i, Cwm L, ⟨0, rfl, by omega, by rw [List.drop_zero]⟩, ?_⟩⟩⟩
 rintro xs _ ⟨m, rfl, hm, he⟩
 have ew : (m : Int) + 1 ≤ 1000000 → IntKind.wrap .i64 ((m : Int) + 1) = ((m + 1 : Nat) : Int) := fun h => by rw [wrap_i64 (by omega) (by omega)]; omega
 have hsl' : (spnT L).asList.length = L.length := by rw [spnT_asList, List.length_map]
 simp only [List.getD_cons_zero, zac, Int.toNat_natCast, hsl']
 refine ⟨fun hlt => ?_, fun hn => ?_⟩
 ·have hlt : m < L.length := by omega
  obtain ⟨k1, k2, _⟩ := hok _ (sq_mem hlt)
  rw [spn_drop hlt, find_cons] at he
  rw [spnT_asList, spn_get hlt]
  generalize sq L m = s at *
  simp only [zae, List.getD_cons_zero, List.getD_cons_succ, zac, Int.toNat_natCast, sub_gls, vtext_all]
  have hb : ¬ ((s.1 : Int) ≤ i ∧ i < (s.2 : Int)) → CwI L i [.int (IntKind.wrap .i64 ((m : Int) + 1))] ∧ Cwm L [.int (IntKind.wrap .i64 ((m : Int) + 1))] < Cwm L [.int m] := fun h => by
   rw [if_neg h] at he
   rw [ew (by omega)]
   refine ⟨⟨m + 1, rfl, by omega, he⟩, ?_⟩
   simp only [Cwm, List.getD_cons_zero, zac]; omega
  have hsb := sub_len (rr rows k) s
  have hst := htx s
  refine ⟨by omega, by omega, fun h1 => ⟨fun h2 => ⟨by omega, by omega, by omega, by omega, vtext_pre ⟨by omega, by omega⟩, ?_⟩, fun h2 => hb (fun z => h2 z.2)⟩, fun h1 => hb (fun z => h1 z.1)⟩
  rw [if_pos ⟨h1, h2⟩] at he
  exact hfin _ (by rw [he]; rfl)
 ·rw [List.drop_of_length_le (by omega)] at he
  have he : findS L i = none := he
  exact hfin _ (by rw [he]))) rfl
theorem find_min (l : List Gl) (i : Int) : findS (segW l) (min i (l.length : Int)) = findS (segW l) i := by
 have hok := fun s hs => (segW_ok l s hs).2.1
 generalize segW l = L at hok ⊢
 induction L with
 | nil => rfl
 | cons s L ih =>
  have h1 := hok s (.head _)
  rw [find_cons, find_cons, ih fun x hx => hok x (.tail _ hx)]
  have e : ((s.1 : Int) ≤ min i (l.length : Int) ∧ min i (l.length : Int) < (s.2 : Int)) ↔ ((s.1 : Int) ≤ i ∧ i < (s.2 : Int)) := by omega
  simp only [e]
def tcwP (ts : List TV) : Prop := ∃ (w h : Int) (rows : List (List Gl)) (r c : Int) (vis : Bool) (rt : Int) (dg sp : Bool) (rp : Int) (ct : Bool) (ce a b : Int), ts = [.agg [.int w, .int h, rowsT rows, .int r, .int c, .bool vis], .agg [.int rt, .bool dg, .bool sp, .int rp, .bool ct, .int ce], .int a, .int b] ∧ (0 ≤ a ∧ a ≤ 255) ∧ (0 ≤ b ∧ b ≤ 255)
theorem lawTcw_c (k : Nat) : Contract Tryz.prog (mkEnv globT []) gtabU (q4v k) (trueL tcwP).pre (trueL tcwP).post := Contract.env (Γ := mkEnv globT [scheckL, swdL, greatL, pidxL, pckL, cwordL, heardL, starL]) (q5e (fun _ => rfl) (fun s hs => by
  simp only [cx_narratortop_TopCopiedWords, List.mem_cons, List.not_mem_nil, or_false] at hs
  rcases hs with rfl | rfl | rfl | rfl | rfl | rfl | rfl | rfl
  ·exact Contract.inEnv rfl (scheck_c 0) rfl
  ·exact Contract.inEnv rfl (swd_c 1) rfl
  ·exact Contract.inEnv rfl (great_c 2) rfl
  ·exact Contract.inEnv rfl (pidx_c 3) rfl
  ·exact Contract.inEnv rfl (pck_c 4) rfl
  ·exact Contract.inEnv rfl (cword_c 5) rfl
  ·exact Contract.inEnv rfl (heard_c 6) rfl
  ·exact Contract.inEnv rfl (star_c 7) rfl) k (by
 rintro ts hl ⟨w, h, rows, r, c, vis, rt, dg, sp, rp, ct, ce, a, b, rfl, ⟨ha0, ha1⟩, ⟨hb0, hb1⟩⟩
 unfold tr_narratortop_TopCopiedWords
 cases hg : qby w rows with
 | true =>
  simp only [Tree.den, E.den, P1.den, P2.den, P3.den, TV.cell, ne_eq, forall_eq, Int.reduceToNat, exists_eq_left', qz, great_all, star_all, hg]
  exact ⟨great_pre trivial, fun _ => ⟨star_pre, rfl⟩, False.elim⟩
 | false =>
  have hs := (small_view hg).1
  by_cases hc : qbo w h rows r c = 0
  ·have V := proper_view hc
   have v1 := V.len; have v2 := V.w1; have v3 := V.w2; have v4 := V.h1; have v5 := V.h2
   have ewa : IntKind.wrap .i64 a = a := wrap_i64 (by omega) (by omega)
   have ewb : IntKind.wrap .i64 b = b := wrap_i64 (by omega) (by omega)
   have hya : a.tmod h = a % h := Int.tmod_eq_emod_of_nonneg ha0
   have hxb : b.tmod w = b % w := Int.tmod_eq_emod_of_nonneg hb0
   have hy1 := Int.emod_nonneg a (show h ≠ 0 by omega)
   have hy2 := Int.emod_lt_of_pos a (show 0 < h by omega)
   have hx1 := Int.emod_nonneg b (show w ≠ 0 by omega)
   have hx2 := Int.emod_lt_of_pos b (show 0 < w by omega)
   generalize a % h = y at hya hy1 hy2
   generalize b % w = x at hxb hx1 hx2
   obtain ⟨k, rfl⟩ : ∃ k : Nat, y = k := ⟨y.toNat, by omega⟩
   have hk : k < rows.length := by omega
   have hrow := V.rows _ (rr_mem hk)
   have hsm := hs.2 _ (rr_mem hk)
   have hsl := hsm.1
   by_cases hst : stgE rt rp ce = 0
   ·simp only [Tree.den, E.den, P1.den, P2.den, P3.den, TV.cell, ne_eq, forall_eq, Int.reduceToNat, exists_eq_left', qz, great_all, star_all, hg, pck_all, hc, scheck_all, hst, ewa, ewb, hya, hxb, pidx_all, cword_all, swd_all, qbh, qbj, Int.toNat_natCast, qbv hk, List.length_map, zaw]
    have hokw := segW_ok (rr rows k)
    have hsn := segW_len (rr rows k)
    have hgood : ∀ s ∈ segW (rr rows k), gooG (subG (rr rows k) s) := fun s hs => sub_good hrow.1 hs
    obtain ⟨T, hT⟩ : ∃ T, T = cwT (rr rows k) (min (idxG (rr rows k) x) ((rr rows k).length : Int)) := ⟨_, rfl⟩
    rw [← hT]
    unfold cwT at hT
    rw [find_min] at hT
    refine ⟨great_pre trivial, False.elim, fun _ => ⟨pck_pre hs, fun h => absurd trivial h, fun _ => ⟨scheck_pre trivial, fun h => absurd trivial h, fun _ => ⟨by omega, by omega, by omega, by omega, pidx_pre ⟨by omega, by omega⟩, cword_pre ⟨hs, hc, by omega, by omega, by omega, by omega⟩, swd_pre (by omega), ?_⟩⟩⟩⟩
    generalize segW (rr rows k) = L at hokw hsn hgood hT ⊢
    generalize idxG (rr rows k) x = i at hT ⊢
    refine ⟨CwI L i, Cwm L, ⟨0, rfl, by omega, by rw [List.drop_zero]⟩, ?_⟩
    rintro xs _ ⟨m, rfl, hm, he⟩
    have hsl' : (spnT L).asList.length = L.length := by rw [spnT_asList, List.length_map]
    simp only [List.getD_cons_zero, zac, Int.toNat_natCast, hsl']
    refine ⟨fun hlt => ?_, fun hn => ?_⟩
    ·have hlt : m < L.length := by omega
     have ew : IntKind.wrap .i64 ((m : Int) + 1) = ((m + 1 : Nat) : Int) := by rw [wrap_i64 (by omega) (by omega)]; omega
     obtain ⟨k1, k2, _⟩ := hokw _ (sq_mem hlt)
     have hgs := hgood _ (sq_mem hlt)
     rw [spn_drop hlt, find_cons] at he
     rw [spnT_asList, spn_get hlt]
     generalize sq L m = s at *
     simp only [zae, List.getD_cons_zero, List.getD_cons_succ, zac, Int.toNat_natCast, sub_gls, heard_all, ew]
     have hb : ¬ ((s.1 : Int) ≤ i ∧ i < (s.2 : Int)) → CwI L i [.int ((m + 1 : Nat) : Int)] ∧ Cwm L [.int ((m + 1 : Nat) : Int)] < Cwm L [.int m] := fun h => by
      rw [if_neg h] at he
      refine ⟨⟨m + 1, rfl, by omega, he⟩, ?_⟩
      simp only [Cwm, List.getD_cons_zero, zac]; omega
     have hsb := sub_len (rr rows k) s
     refine ⟨by omega, by omega, fun h1 => ⟨fun h2 => ⟨by omega, by omega, by omega, by omega, heard_pre ⟨hgs, by omega⟩, ?_⟩, fun h2 => hb (fun z => h2 z.2)⟩, fun h1 => hb (fun z => h1 z.1)⟩
     rw [if_pos ⟨h1, h2⟩] at he
     rw [he] at hT
     dsimp only at hT
     subst hT
     simp only [zae, List.getD_cons_zero, List.getD_cons_succ, List.cons_append, List.nil_append, zac, zad, zab]
     refine ⟨⟨?_, ?_⟩, ?_⟩
     all_goals exact ⟨fun _ => ⟨fun _ => ⟨fun _ => ⟨star_pre, rfl⟩, fun h => absurd (by trivial) h⟩, fun h => absurd (by trivial) h⟩, fun h => by first | exact h.elim | cases h⟩
    ·rw [List.drop_of_length_le (by omega)] at he
     have he : findS L i = none := he
     rw [he] at hT
     dsimp only at hT
     subst hT
     simp only [zae, List.getD_cons_zero, List.getD_cons_succ, List.cons_append, List.nil_append, zac, zad]
     exact ⟨fun _ => ⟨fun _ => ⟨star_pre, rfl⟩, fun h => absurd trivial h⟩, fun h => absurd trivial h⟩
   ·simp only [Tree.den, E.den, P1.den, P2.den, P3.den, TV.cell, ne_eq, forall_eq, Int.reduceToNat, exists_eq_left', qz, great_all, star_all, hg, pck_all, hc, scheck_all]
    refine ⟨great_pre trivial, False.elim, fun _ => ⟨pck_pre hs, fun h => absurd trivial h, fun _ => ⟨scheck_pre trivial, fun _ => ⟨star_pre, rfl⟩, fun h => absurd h hst⟩⟩⟩
  ·simp only [Tree.den, E.den, P1.den, P2.den, P3.den, TV.cell, ne_eq, forall_eq, Int.reduceToNat, exists_eq_left', qz, great_all, star_all, hg, pck_all]
   exact ⟨great_pre trivial, False.elim, fun _ => ⟨pck_pre hs, fun _ => ⟨star_pre, rfl⟩, fun h => absurd h hc⟩⟩)) rfl
end Go.Proofs.YtlhagkbhojmjpaaGreatDoor
