/- Written by this repo's own program out of its texts. -/
import Derived.Test.YtlhagkbhojmjpaaGreatDoorPV1
set_option linter.unusedSimpArgs false
set_option linter.unusedVariables false
set_option linter.unusedSectionVars false
namespace Go.Proofs.YtlhagkbhojmjpaaGreatDoor
def rowsT (l : List (List Gl)) : TV := .list (l.map glsT)
theorem rowsT_inj {a b : List (List Gl)} (h : rowsT a = rowsT b) : a = b := by
 unfold rowsT at h
 simp only [TV.list.injEq] at h
 exact List.map_inj_right (fun _ _ h => qbs h) |>.1 h
theorem rowsT_eq {a b : List (List Gl)} : rowsT a = rowsT b ↔ a = b := ⟨rowsT_inj, fun h => by rw [h]⟩
theorem qbh (l : List (List Gl)) : (rowsT l).asList = l.map glsT := rfl
theorem qbj (l : List (List Gl)) : (rowsT l).asList.length = l.length := by rw [qbh, List.length_map]
def rr (l : List (List Gl)) (i : Nat) : List Gl := l.getD i []
theorem qbv {l : List (List Gl)} {i : Nat} (h : i < l.length) : (l.map glsT).getD i (.int 0) = glsT (rr l i) := by
 unfold rr
 rw [List.getD_eq_getElem?_getD, List.getElem?_map, List.getD_eq_getElem?_getD, List.getElem?_eq_getElem h]
 rfl
theorem qbt {l : List (List Gl)} {k : Nat} (h : k < l.length) : l.drop k = rr l k :: l.drop (k + 1) := by
 unfold rr
 rw [List.drop_eq_getElem_cons h, List.getD_eq_getElem?_getD, List.getElem?_eq_getElem h]
 rfl
theorem rr_mem {l : List (List Gl)} {i : Nat} (h : i < l.length) : rr l i ∈ l := by
 unfold rr
 rw [List.getD_eq_getElem?_getD, List.getElem?_eq_getElem h]
 exact List.getElem_mem h
def qbk (l : List Gl) : Bool := decide (140 < l.length) || l.any fun g => decide (40 < g.s.length)
def qby (w : Int) (rows : List (List Gl)) : Bool := decide (12 < rows.length) || (decide (40 < w) && decide (2 < rows.length)) || rows.any qbk
def SmallR (l : List Gl) : Prop := l.length ≤ 140 ∧ ∀ g ∈ l, g.s.length ≤ 40
def SmallV (rows : List (List Gl)) : Prop := rows.length ≤ 12 ∧ ∀ l ∈ rows, SmallR l
theorem small_row {l : List Gl} (h : qbk l = false) : SmallR l := by
 unfold qbk at h
 simp only [Bool.or_eq_false_iff, decide_eq_false_iff_not, List.any_eq_false, decide_eq_true_eq] at h
 exact ⟨by omega, fun g hg => by have := h.2 g hg; omega⟩
theorem small_view {w : Int} {rows : List (List Gl)} (h : qby w rows = false) : SmallV rows ∧ (40 < w → rows.length ≤ 2) := by
 unfold qby at h
 simp only [Bool.or_eq_false_iff, decide_eq_false_iff_not, List.any_eq_false, Bool.and_eq_false_iff] at h
 refine ⟨⟨by omega, fun l hl => small_row (by simpa using h.2 l hl)⟩, fun hw => ?_⟩
 rcases h.1.2 with h | h <;> omega
def GrI (l : List Gl) (xs : List TV) : Prop := ∃ k : Nat, xs = [.int k] ∧ k ≤ l.length ∧ (l.any fun g => decide (40 < g.s.length)) = ((l.drop k).any fun g => decide (40 < g.s.length))
def Grm (n : Nat) (xs : List TV) : Nat := n - (xs.getD 0 (.int 0)).asInt.toNat
def growL : Law := ⟨fun ts => ∃ (l : List Gl), ts = [glsT l] ∧ (True), fun ts z₀ => ∀ (l : List Gl), ts = [glsT l] → z₀ = .bool (qbk l)⟩
theorem grow_pre {l : List Gl} (h : True) : growL.pre [glsT l] := ⟨l, rfl, h⟩
theorem grow_fin {l : List Gl} {z₀ : TV} (h : z₀ = .bool (qbk l)) : growL.post [glsT l] z₀ := fun l₁ e => by
 simp only [qy, zzx] at e; subst e
 exact h
theorem grow_all {l : List Gl} {Q : TV → Prop} : (∀ z₀, growL.post [glsT l] z₀ → Q z₀) ↔ Q (.bool (qbk l)) := ⟨fun h => h _ (grow_fin rfl), fun h z₀ hr => by rw [hr _ rfl]; exact h⟩
theorem grow_c (k : Nat) : Contract Tryz.prog (mkEnv globT []) gtabU (qcd k) growL.pre growL.post := Contract.env (Γ := mkEnv globT []) (qcy (fun _ => rfl) (fun s hs => by
  cases hs) k (by
 rintro ts hl ⟨l, rfl, hp⟩
 have hfin : ∀ z₀ : TV, z₀ = .bool (qbk l) → growL.post [glsT l] z₀ := fun z₀ hz₀ => grow_fin hz₀
 generalize growL.post [glsT l] = R at hfin ⊢
 unfold tr_ref15_GreatRow
 unfold qbk at hfin
 simp only [Tree.den, E.den, P1.den, P2.den, P3.den, TV.cell, ne_eq, forall_eq, Int.reduceToNat, exists_eq_left', qz, zbo, zaw, List.length_map]
 refine ⟨fun h => hfin _ (by rw [decide_eq_true (by omega), Bool.true_or]), fun h => ⟨GrI l, Grm l.length, ⟨0, rfl, by omega, by rw [List.drop_zero]⟩, ?_⟩⟩
 rw [decide_eq_false (by omega), Bool.false_or] at hfin
 rintro xs _ ⟨k, rfl, hk, he⟩
 have hD : Grm l.length [.int (k : Int)] = l.length - k := rfl
 have e64 : IntKind.wrap .i64 ((k : Int) + 1) = ((k + 1 : Nat) : Int) := by rw [wrap_i64 (n := (k : Int) + 1) (by omega) (by omega)]; omega
 by_cases hkl : k < l.length
 ·rw [zkt hkl, List.any_cons] at he
  simp only [Tree.den, E.den, P1.den, P2.den, P3.den, TV.cell, ne_eq, forall_eq, Int.reduceToNat, exists_eq_left', qz, hD, e64, zbo, zaw, List.length_map, Int.toNat_natCast, zi7 hkl, glT]
  refine ⟨fun _ => ⟨by omega, by omega, fun h1 => hfin _ ?_, fun h1 => ⟨⟨k + 1, rfl, by omega, ?_⟩, ?_⟩⟩, fun h => by omega⟩
  ·rw [he, decide_eq_true (by omega)]; rfl
  ·rw [he, decide_eq_false (by omega)]; rfl
  ·simp only [Grm, List.getD_cons_zero, zac]; omega
 ·have : k = l.length := by omega
  subst this
  simp only [Tree.den, E.den, P1.den, P2.den, P3.den, TV.cell, ne_eq, forall_eq, Int.reduceToNat, exists_eq_left', qz, hD, zbo, zaw, List.length_map]
  refine ⟨fun h => by omega, fun _ => hfin _ ?_⟩
  rw [he, List.drop_of_length_le (Nat.le_refl _)]
  rfl)) rfl
def GvI (l : List (List Gl)) (xs : List TV) : Prop := ∃ k : Nat, xs = [.int k] ∧ k ≤ l.length ∧ l.any qbk = (l.drop k).any qbk
theorem great_loop {w : Int} {rows : List (List Gl)} {k : Nat} {R : TV → Prop} (hk : k ≤ rows.length) (he : rows.any qbk = (rows.drop k).any qbk) (hfin : ∀ z, z = TV.bool (rows.any qbk) → R z) :
  (k < rows.length → qbk (rr rows k) = true → R (.bool true)) ∧ (k < rows.length → qbk (rr rows k) = false → rows.any qbk = (rows.drop (k + 1)).any qbk) ∧ (¬ k < rows.length → R (.bool false)) := by
 refine ⟨fun hkl h => hfin _ ?_, fun hkl h => ?_, fun hkl => hfin _ ?_⟩
 ·rw [he, qbt hkl, List.any_cons, h]; rfl
 ·rw [he, qbt hkl, List.any_cons, h]; rfl
 ·rw [he, List.drop_of_length_le (by omega)]; rfl
def greatL : Law := ⟨fun ts => ∃ (w : Int) (h : Int) (rows : List (List Gl)) (r : Int) (c : Int) (vis : Bool), ts = [.agg [.int w, .int h, rowsT rows, .int r, .int c, .bool vis]] ∧ (True), fun ts z₀ => ∀ (w : Int) (h : Int) (rows : List (List Gl)) (r : Int) (c : Int) (vis : Bool), ts = [.agg [.int w, .int h, rowsT rows, .int r, .int c, .bool vis]] → z₀ = .bool (qby w rows)⟩
theorem great_pre {w : Int} {h : Int} {rows : List (List Gl)} {r : Int} {c : Int} {vis : Bool} (h₀ : True) : greatL.pre [.agg [.int w, .int h, rowsT rows, .int r, .int c, .bool vis]] := ⟨w, h, rows, r, c, vis, rfl, h₀⟩
theorem great_fin {w : Int} {h : Int} {rows : List (List Gl)} {r : Int} {c : Int} {vis : Bool} {z₀ : TV} (h₀ : z₀ = .bool (qby w rows)) : greatL.post [.agg [.int w, .int h, rowsT rows, .int r, .int c, .bool vis]] z₀ := fun w₁ h₁ rows₁ r₁ c₁ vis₁ e => by
 simp only [qy, rowsT_eq] at e; obtain ⟨rfl, rfl, rfl, rfl, rfl, rfl⟩ := e
 exact h₀
theorem great_all {w : Int} {h : Int} {rows : List (List Gl)} {r : Int} {c : Int} {vis : Bool} {Q : TV → Prop} : (∀ z₀, greatL.post [.agg [.int w, .int h, rowsT rows, .int r, .int c, .bool vis]] z₀ → Q z₀) ↔ Q (.bool (qby w rows)) := ⟨fun h₀ => h₀ _ (great_fin rfl), fun h₀ z₀ hr => by rw [hr _ _ _ _ _ _ rfl]; exact h₀⟩
theorem great_c (k : Nat) : Contract Tryz.prog (mkEnv globT []) gtabU (qb1 k) greatL.pre greatL.post := Contract.env (Γ := mkEnv globT [growL]) (qdx (fun _ => rfl) (fun s hs => by
  simp only [cx_ref15_Great, List.mem_cons, List.not_mem_nil, or_false] at hs
  rcases hs with rfl
  ·exact Contract.inEnv rfl (grow_c 0) rfl) k (by
 rintro ts hl ⟨w, h, rows, r, c, vis, rfl, hp⟩
 have hfin : ∀ z₀ : TV, z₀ = .bool (qby w rows) → greatL.post [.agg [.int w, .int h, rowsT rows, .int r, .int c, .bool vis]] z₀ := fun z₀ hz₀ => great_fin hz₀
 generalize greatL.post [.agg [.int w, .int h, rowsT rows, .int r, .int c, .bool vis]] = R at hfin ⊢
 unfold tr_ref15_Great
 unfold qby at hfin
 simp only [Tree.den, E.den, P1.den, P2.den, P3.den, TV.cell, ne_eq, forall_eq, Int.reduceToNat, exists_eq_left', qz, qbj, qbh, List.length_map]
 refine ⟨fun h1 => hfin _ (by rw [decide_eq_true (by omega)]; rfl), fun h1 => ?_⟩
 rw [decide_eq_false (by omega : ¬ 12 < rows.length), Bool.false_or] at hfin
 have loop : (∀ z, z = TV.bool (rows.any qbk) → R z) → ∀ xs : List TV, GvI rows xs → ∃ k : Nat, xs = [.int k] ∧ k ≤ rows.length ∧ IntKind.wrap .i64 ((k : Int) + 1) = ((k + 1 : Nat) : Int) ∧ Grm rows.length [.int (k : Int)] = rows.length - k ∧
   (k < rows.length → qbk (rr rows k) = true → R (.bool true)) ∧ (k < rows.length → qbk (rr rows k) = false → GvI rows [.int ((k + 1 : Nat) : Int)] ∧ Grm rows.length [.int ((k + 1 : Nat) : Int)] < rows.length - k) ∧ (¬ k < rows.length → R (.bool false)) := by
  rintro hfin xs ⟨k, rfl, hk, he⟩
  obtain ⟨g1, g2, g3⟩ := great_loop (w := w) hk he hfin
  refine ⟨k, rfl, hk, by rw [wrap_i64 (n := (k : Int) + 1) (by omega) (by omega)]; omega, rfl, g1, fun hkl hg => ⟨⟨k + 1, rfl, by omega, g2 hkl hg⟩, ?_⟩, g3⟩
  simp only [Grm, List.getD_cons_zero, zac]; omega
 have init : GvI rows [.int 0] := ⟨0, rfl, by omega, by rw [List.drop_zero]⟩
 have body : (∀ z, z = TV.bool (rows.any qbk) → R z) → True := fun _ => trivial
 refine ⟨fun h2 => ⟨fun h3 => hfin _ (by rw [decide_eq_true (by omega), decide_eq_true (by omega)]; rfl), fun h3 => ⟨GvI rows, Grm rows.length, init, ?_⟩⟩, fun h2 => ⟨GvI rows, Grm rows.length, init, ?_⟩⟩
 ·rw [decide_eq_false (by omega : ¬ 2 < rows.length), Bool.and_false, Bool.false_or] at hfin
  intro xs _ hI
  obtain ⟨k, rfl, hk, e64, hD, g1, g2, g3⟩ := loop hfin xs hI
  by_cases hkl : k < rows.length
  ·simp only [Tree.den, E.den, P1.den, P2.den, P3.den, TV.cell, ne_eq, forall_eq, Int.reduceToNat, exists_eq_left', qz, hD, e64, qbj, qbh, List.length_map, Int.toNat_natCast, qbv hkl, grow_all]
   exact ⟨fun _ => ⟨by omega, by omega, grow_pre trivial, g1 hkl, fun h => g2 hkl h⟩, fun h => by omega⟩
  ·simp only [Tree.den, E.den, P1.den, P2.den, P3.den, TV.cell, ne_eq, forall_eq, Int.reduceToNat, exists_eq_left', qz, hD, qbj, qbh, List.length_map]
   exact ⟨fun h => by omega, fun _ => g3 hkl⟩
 ·rw [decide_eq_false (by omega : ¬ 40 < w), Bool.false_and, Bool.false_or] at hfin
  intro xs _ hI
  obtain ⟨k, rfl, hk, e64, hD, g1, g2, g3⟩ := loop hfin xs hI
  by_cases hkl : k < rows.length
  ·simp only [Tree.den, E.den, P1.den, P2.den, P3.den, TV.cell, ne_eq, forall_eq, Int.reduceToNat, exists_eq_left', qz, hD, e64, qbj, qbh, List.length_map, Int.toNat_natCast, qbv hkl, grow_all]
   exact ⟨fun _ => ⟨by omega, by omega, grow_pre trivial, g1 hkl, fun h => g2 hkl h⟩, fun h => by omega⟩
  ·simp only [Tree.den, E.den, P1.den, P2.den, P3.den, TV.cell, ne_eq, forall_eq, Int.reduceToNat, exists_eq_left', qz, hD, qbj, qbh, List.length_map]
   exact ⟨fun h => by omega, fun _ => g3 hkl⟩)) rfl
def sizB (w h : Int) : Bool := decide (1 ≤ w) && decide (w ≤ 132) && decide (1 ≤ h) && decide (h ≤ 60)
def psizL : Law := ⟨fun ts => ∃ (w : Int) (h : Int), ts = [.int w, .int h] ∧ (True), fun ts z₀ => ∀ (w : Int) (h : Int), ts = [.int w, .int h] → z₀ = .bool (sizB w h)⟩
theorem psiz_pre {w : Int} {h : Int} (h₀ : True) : psizL.pre [.int w, .int h] := ⟨w, h, rfl, h₀⟩
theorem psiz_fin {w : Int} {h : Int} {z₀ : TV} (h₀ : z₀ = .bool (sizB w h)) : psizL.post [.int w, .int h] z₀ := fun w₁ h₁ e => by
 simp only [qy] at e; obtain ⟨rfl, rfl⟩ := e
 exact h₀
theorem psiz_all {w : Int} {h : Int} {Q : TV → Prop} : (∀ z₀, psizL.post [.int w, .int h] z₀ → Q z₀) ↔ Q (.bool (sizB w h)) := ⟨fun h₀ => h₀ _ (psiz_fin rfl), fun h₀ z₀ hr => by rw [hr _ _ rfl]; exact h₀⟩
theorem psiz_c (k : Nat) : Contract Tryz.prog (mkEnv globT []) gtabU (qc1 k) psizL.pre psizL.post := Contract.env (Γ := mkEnv globT []) (qec (fun _ => rfl) (fun s hs => by
  cases hs) k (by
 rintro ts hl ⟨w, h, rfl, hp⟩
 have hfin : ∀ z₀ : TV, z₀ = .bool (sizB w h) → psizL.post [.int w, .int h] z₀ := fun z₀ hz₀ => psiz_fin hz₀
 generalize psizL.post [.int w, .int h] = R at hfin ⊢
 unfold tr_view_sized
 unfold sizB at hfin
 simp only [Tree.den, E.den, P1.den, P2.den, P3.den, TV.cell, ne_eq, forall_eq, Int.reduceToNat, exists_eq_left', qz]
 refine ⟨fun h1 => ⟨fun h2 => ⟨fun h3 => hfin _ ?_, fun h3 => hfin _ ?_⟩, fun h2 => hfin _ ?_⟩, fun h1 => hfin _ ?_⟩
 ·rw [decide_eq_true h1, decide_eq_true h2, decide_eq_true h3]; rfl
 ·rw [decide_eq_false h3]; simp
 ·rw [decide_eq_false h2]; simp
 ·rw [decide_eq_false h1]; simp)) rfl
def wd (g : Gl) : Int := if g.w = true then 2 else 1
def widG : List Gl → Int
 | [] => 0
 | g :: l => wd g + widG l
theorem wd_bd (g : Gl) : 1 ≤ wd g ∧ wd g ≤ 2 := by unfold wd; split <;> omega
theorem qbz : ∀ l : List Gl, (l.length : Int) ≤ widG l ∧ widG l ≤ 2 * l.length
 | [] => ⟨Int.le_refl _, Int.le_refl _⟩
 | g :: l => by
  have := qbz l
  have := wd_bd g
  simp only [widG, List.length_cons]
  omega
theorem widG_app (a b : List Gl) : widG (a ++ b) = widG a + widG b := by
 induction a with
 | nil => simp [widG]
 | cons g a ih => rw [List.cons_append]; simp only [widG]; rw [ih]; omega
theorem qbr {l : List Gl} {i : Nat} (h : i < l.length) : widG (l.take (i + 1)) = widG (l.take i) + wd (gg l i) := by
 rw [gtake h, widG_app]
 simp [widG]
def Wdm (l : List Gl) (xs : List TV) : Nat := l.length - (xs.getD 1 (.int 0)).asInt.toNat
def WeI (l : List Gl) (xs : List TV) : Prop := ∃ i : Nat, xs = [.int (l.length + widG (l.take i) - i), .int i] ∧ i ≤ l.length
def pwidL : Law := ⟨fun ts => ∃ (l : List Gl), ts = [glsT l] ∧ (l.length ≤ 1000000), fun ts z₀ => ∀ (l : List Gl), ts = [glsT l] → z₀ = .int (widG l)⟩
theorem pwid_pre {l : List Gl} (h : l.length ≤ 1000000) : pwidL.pre [glsT l] := ⟨l, rfl, h⟩
theorem pwid_fin {l : List Gl} {z₀ : TV} (h : z₀ = .int (widG l)) : pwidL.post [glsT l] z₀ := fun l₁ e => by
 simp only [qy, zzx] at e; subst e
 exact h
theorem pwid_all {l : List Gl} {Q : TV → Prop} : (∀ z₀, pwidL.post [glsT l] z₀ → Q z₀) ↔ Q (.int (widG l)) := ⟨fun h => h _ (pwid_fin rfl), fun h z₀ hr => by rw [hr _ rfl]; exact h⟩
theorem pwid_c (k : Nat) : Contract Tryz.prog (mkEnv globT []) gtabU (qck k) pwidL.pre pwidL.post := Contract.env (Γ := mkEnv globT []) (qef (fun _ => rfl) (fun s hs => by
  cases hs) k (by
 rintro ts hl ⟨l, rfl, hp⟩
 have hfin : ∀ z₀ : TV, z₀ = .int (widG l) → pwidL.post [glsT l] z₀ := fun z₀ hz₀ => pwid_fin hz₀
 generalize pwidL.post [glsT l] = R at hfin ⊢
 unfold tr_view_Width
 simp only [Tree.den, E.den, P1.den, P2.den, P3.den, TV.cell, ne_eq, forall_eq, Int.reduceToNat, exists_eq_left', qz, zbo, zaw, List.length_map]
 refine ⟨WeI l, Wdm l, ⟨0, by simp [widG], by omega⟩, ?_⟩
 rintro xs _ ⟨i, rfl, hi⟩
 have hD : ∀ a, Wdm l [a, .int (i : Int)] = l.length - i := fun _ => rfl
 have hb := qbz (l.take i)
 rw [List.length_take] at hb
 have e64 : IntKind.wrap .i64 ((i : Int) + 1) = ((i + 1 : Nat) : Int) := by rw [wrap_i64 (n := (i : Int) + 1) (by omega) (by omega)]; omega
 have e1 : IntKind.wrap .i64 ((l.length : Int) + widG (l.take i) - i + 1) = (l.length : Int) + widG (l.take i) - i + 1 := wrap_i64 (by omega) (by omega)
 by_cases hil : i < l.length
 ·have hs := qbr hil
  have go : ∀ z : Int, z = (l.length : Int) + widG (l.take (i + 1)) - ((i + 1 : Nat) : Int) → WeI l [.int z, .int ((i + 1 : Nat) : Int)] ∧ Wdm l [.int z, .int ((i + 1 : Nat) : Int)] < l.length - i := fun z hz => by
   refine ⟨⟨i + 1, by rw [hz], by omega⟩, ?_⟩
   simp only [Wdm, List.getD_cons_zero, List.getD_cons_succ, zac]; omega
  simp only [Tree.den, E.den, P1.den, P2.den, P3.den, TV.cell, ne_eq, forall_eq, Int.reduceToNat, exists_eq_left', qz, hD, e64, e1, zbo, zaw, List.length_map, Int.toNat_natCast, zi7 hil, glT]
  refine ⟨fun _ => ⟨by omega, by omega, fun h => go _ ?_, fun h => go _ ?_⟩, fun h => by omega⟩
  ·rw [hs]; unfold wd; rw [if_pos h]; omega
  ·rw [hs]; unfold wd; rw [h]; simp; omega
 ·have : i = l.length := by omega
  subst this
  simp only [Tree.den, E.den, P1.den, P2.den, P3.den, TV.cell, ne_eq, forall_eq, Int.reduceToNat, exists_eq_left', qz, hD, zbo, zaw, List.length_map]
  refine ⟨fun h => by omega, fun _ => hfin _ ?_⟩
  rw [List.take_of_length_le (Nat.le_refl _)]
  congr 1
  omega)) rfl
def idxR : List Gl → Int → Int → Nat → Int
 | [], col, at', i => i + col - at'
 | g :: l, col, at', i => if col < at' + wd g then i else idxR l col (at' + wd g) (i + 1)
def idxG (l : List Gl) (col : Int) : Int := if col < 0 then -1 else idxR l col 0 0
def IxG (l : List Gl) (col : Int) (xs : List TV) : Prop := ∃ i : Nat, xs = [.int (widG (l.take i)), .int i] ∧ i ≤ l.length ∧ idxR l col 0 0 = idxR (l.drop i) col (widG (l.take i)) i
def pidxL : Law := ⟨fun ts => ∃ (l : List Gl) (col : Int), ts = [glsT l, .int col] ∧ (l.length ≤ 1000000 ∧ col ≤ 1000000000), fun ts z₀ => ∀ (l : List Gl) (col : Int), ts = [glsT l, .int col] → z₀ = .int (idxG l col)⟩
theorem pidx_pre {l : List Gl} {col : Int} (h : l.length ≤ 1000000 ∧ col ≤ 1000000000) : pidxL.pre [glsT l, .int col] := ⟨l, col, rfl, h⟩
theorem pidx_fin {l : List Gl} {col : Int} {z₀ : TV} (h : z₀ = .int (idxG l col)) : pidxL.post [glsT l, .int col] z₀ := fun l₁ col₁ e => by
 simp only [qy, zzx] at e; obtain ⟨rfl, rfl⟩ := e
 exact h
theorem pidx_all {l : List Gl} {col : Int} {Q : TV → Prop} : (∀ z₀, pidxL.post [glsT l, .int col] z₀ → Q z₀) ↔ Q (.int (idxG l col)) := ⟨fun h => h _ (pidx_fin rfl), fun h z₀ hr => by rw [hr _ _ rfl]; exact h⟩
theorem pidx_c (k : Nat) : Contract Tryz.prog (mkEnv globT []) gtabU (qc5 k) pidxL.pre pidxL.post := Contract.env (Γ := mkEnv globT []) (qej (fun _ => rfl) (fun s hs => by
  cases hs) k (by
 rintro ts hl ⟨l, col, rfl, hp⟩
 have hfin : ∀ z₀ : TV, z₀ = .int (idxG l col) → pidxL.post [glsT l, .int col] z₀ := fun z₀ hz₀ => pidx_fin hz₀
 generalize pidxL.post [glsT l, .int col] = R at hfin ⊢
 unfold tr_view_Index
 obtain ⟨hl1, hc1⟩ := hp
 unfold idxG at hfin
 simp only [Tree.den, E.den, P1.den, P2.den, P3.den, TV.cell, ne_eq, forall_eq, Int.reduceToNat, exists_eq_left', qz, zbo, zaw, List.length_map]
 refine ⟨fun h => hfin _ (by rw [if_pos h]), fun h => ⟨IxG l col, Wdm l, ⟨0, rfl, by omega, by rw [List.drop_zero]; rfl⟩, ?_⟩⟩
 rw [if_neg h] at hfin
 rintro xs _ ⟨i, rfl, hi, he⟩
 have hD : ∀ a, Wdm l [a, .int (i : Int)] = l.length - i := fun _ => rfl
 have hb := qbz (l.take i)
 rw [List.length_take] at hb
 have e64 : IntKind.wrap .i64 ((i : Int) + 1) = ((i + 1 : Nat) : Int) := by rw [wrap_i64 (n := (i : Int) + 1) (by omega) (by omega)]; omega
 have e1 : IntKind.wrap .i64 (widG (l.take i) + 1) = widG (l.take i) + 1 := wrap_i64 (by omega) (by omega)
 have e2 : IntKind.wrap .i64 (widG (l.take i) + 1 + 1) = widG (l.take i) + 2 := by rw [wrap_i64 (by omega) (by omega)]; omega
 by_cases hil : i < l.length
 ·have hs := qbr hil
  have hw : wd (gg l i) = if (gg l i).w = true then 2 else 1 := rfl
  rw [zkt hil] at he
  simp only [idxR] at he
  have go : ∀ z : Int, z = widG (l.take (i + 1)) → ¬ col < widG (l.take i) + wd (gg l i) → IxG l col [.int z, .int ((i + 1 : Nat) : Int)] ∧ Wdm l [.int z, .int ((i + 1 : Nat) : Int)] < l.length - i := fun z hz h1 => by
   refine ⟨⟨i + 1, by rw [hz], by omega, by rw [he, if_neg h1, hs]⟩, ?_⟩
   simp only [Wdm, List.getD_cons_zero, List.getD_cons_succ, zac]; omega
  simp only [Tree.den, E.den, P1.den, P2.den, P3.den, TV.cell, ne_eq, forall_eq, Int.reduceToNat, exists_eq_left', qz, hD, e64, e1, e2, zbo, zaw, List.length_map, Int.toNat_natCast, zi7 hil, glT]
  refine ⟨fun _ => ⟨by omega, by omega, fun h0 => ⟨fun h1 => hfin _ ?_, fun h1 => go _ ?_ ?_⟩, fun h0 => ⟨fun h1 => hfin _ ?_, fun h1 => go _ ?_ ?_⟩⟩, fun h => by omega⟩
  ·rw [if_pos h0] at hw; rw [he, if_pos (by omega)]
  ·rw [if_pos h0] at hw; omega
  ·rw [if_pos h0] at hw; omega
  ·rw [if_neg (by rw [h0]; decide)] at hw; rw [he, if_pos (by omega)]
  ·rw [if_neg (by rw [h0]; decide)] at hw; omega
  ·rw [if_neg (by rw [h0]; decide)] at hw; omega
 ·have : i = l.length := by omega
  subst this
  have e1 : IntKind.wrap .i64 ((l.length : Int) + col) = (l.length : Int) + col := wrap_i64 (by omega) (by omega)
  have e2 : IntKind.wrap .i64 ((l.length : Int) + col - widG (l.take l.length)) = (l.length : Int) + col - widG (l.take l.length) := wrap_i64 (by omega) (by omega)
  simp only [Tree.den, E.den, P1.den, P2.den, P3.den, TV.cell, ne_eq, forall_eq, Int.reduceToNat, exists_eq_left', qz, hD, zbo, zaw, List.length_map, e1, e2]
  refine ⟨fun h => by omega, fun _ => hfin _ ?_⟩
  rw [he, List.drop_of_length_le (Nat.le_refl _)]
  rfl)) rfl
def glyZ (g : Gl) : Int := if ¬ zbf g.s = 0 then 3 else if ¬ g.w = (zc7 g.s == 2) ∨ g.y < 0 ∨ 3 < g.y ∨ (g.y = 3 ∧ ¬ g.s = [42]) then 9 else 0
def pglL : Law := ⟨fun ts => ∃ (s : List UInt8) (w : Bool) (y : Int), ts = [.agg [.str s, .bool w, .int y]] ∧ (s.length ≤ 1000000), fun ts z₀ => ∀ (s : List UInt8) (w : Bool) (y : Int), ts = [.agg [.str s, .bool w, .int y]] → z₀ = .int (glyZ ⟨s, w, y⟩)⟩
theorem pgl_pre {s : List UInt8} {w : Bool} {y : Int} (h : s.length ≤ 1000000) : pglL.pre [.agg [.str s, .bool w, .int y]] := ⟨s, w, y, rfl, h⟩
theorem pgl_fin {s : List UInt8} {w : Bool} {y : Int} {z₀ : TV} (h : z₀ = .int (glyZ ⟨s, w, y⟩)) : pglL.post [.agg [.str s, .bool w, .int y]] z₀ := fun s₁ w₁ y₁ e => by
 simp only [qy] at e; obtain ⟨rfl, rfl, rfl⟩ := e
 exact h
theorem pgl_all {s : List UInt8} {w : Bool} {y : Int} {Q : TV → Prop} : (∀ z₀, pglL.post [.agg [.str s, .bool w, .int y]] z₀ → Q z₀) ↔ Q (.int (glyZ ⟨s, w, y⟩)) := ⟨fun h => h _ (pgl_fin rfl), fun h z₀ hr => by rw [hr _ _ _ rfl]; exact h⟩
theorem pgl_c (k : Nat) : Contract Tryz.prog (mkEnv globT []) gtabU (qc6 k) pglL.pre pglL.post := Contract.env (Γ := mkEnv globT [checkL, cwidthL]) (qeb (fun _ => rfl) (fun s hs => by
  simp only [cx_view_glyph, List.mem_cons, List.not_mem_nil, or_false] at hs
  rcases hs with rfl | rfl
  ·exact Contract.inEnv rfl (check_c 0) rfl
  ·exact Contract.inEnv rfl (cwidth_c 1) rfl) k (by
 rintro ts hl ⟨s, w, y, rfl, hp⟩
 have hfin : ∀ z₀ : TV, z₀ = .int (glyZ ⟨s, w, y⟩) → pglL.post [.agg [.str s, .bool w, .int y]] z₀ := fun z₀ hz₀ => pgl_fin hz₀
 generalize pglL.post [.agg [.str s, .bool w, .int y]] = R at hfin ⊢
 unfold tr_view_glyph
 unfold glyZ at hfin
 dsimp only at hfin
 simp only [Tree.den, E.den, P1.den, P2.den, P3.den, TV.cell, ne_eq, forall_eq, Int.reduceToNat, exists_eq_left', qz, z93, z3x]
 refine ⟨qa2 hp, fun h => hfin _ (by rw [if_pos h]), fun h => ⟨z2z hp, fun h1 => hfin _ ?_, fun h1 => ⟨fun h2 => hfin _ ?_, fun h2 => ⟨fun h3 => hfin _ ?_, fun h3 => ⟨fun h4 => ⟨fun h5 => hfin _ ?_, fun h5 => hfin _ ?_⟩, fun h4 => hfin _ ?_⟩⟩⟩⟩⟩
 ·rw [if_neg (by simpa using h), if_pos (.inl h1)]
 ·rw [if_neg (by simpa using h), if_pos (.inr (.inl h2))]
 ·rw [if_neg (by simpa using h), if_pos (.inr (.inr (.inl h3)))]
 ·rw [if_neg (by simpa using h), if_pos (.inr (.inr (.inr ⟨h4, h5⟩)))]
 ·rw [if_neg (by simpa using h), if_neg (by rintro (e | e | e | ⟨_, e⟩) <;> first | exact e h1 | omega | exact e h5)]
 ·rw [if_neg (by simpa using h), if_neg (by rintro (e | e | e | ⟨e, _⟩) <;> first | exact e h1 | omega)])) rfl
noncomputable instance : DecidableEq Gl := fun _ _ => Classical.propDecidable _
def qbq : Gl := ⟨[32], false, 0⟩
def pblankL : Law := ⟨fun ts => ts = [], fun ts z₀ => ts = [] → z₀ = .agg [.str [32], .bool false, .int 0]⟩
theorem pblank_pre : pblankL.pre [] := rfl
theorem pblank_fin {z₀ : TV} (h : z₀ = .agg [.str [32], .bool false, .int 0]) : pblankL.post [] z₀ := fun _ => h
theorem pblank_all {Q : TV → Prop} : (∀ z₀, pblankL.post [] z₀ → Q z₀) ↔ Q (.agg [.str [32], .bool false, .int 0]) := ⟨fun h => h _ fun _ => rfl, fun h z₀ hr => by rw [hr rfl]; exact h⟩
theorem pblank_c (k : Nat) : Contract Tryz.prog (mkEnv globT []) gtabU (qcz k) pblankL.pre pblankL.post := Contract.env (Γ := mkEnv globT []) (qeh (fun _ => rfl) (fun s hs => by
  cases hs) k (by
 rintro ts hl rfl
 have hfin : ∀ z₀ : TV, z₀ = .agg [.str [32], .bool false, .int 0] → pblankL.post [] z₀ := fun z₀ hz₀ => pblank_fin hz₀
 generalize pblankL.post [] = R at hfin ⊢
 unfold tr_view_blank
 simp only [Tree.den, E.den, P1.den, P2.den, P3.den, TV.cell, ne_eq, forall_eq, Int.reduceToNat, exists_eq_left', qz]
 exact hfin _ rfl)) rfl
def glErr : List Gl → Int
 | [] => 0
 | g :: l => if glyZ g = 0 then glErr l else glyZ g
noncomputable def qbi (w : Int) (l : List Gl) : Int := if ¬ glErr l = 0 then glErr l else if w < widG l then 12 else if 0 < l.length ∧ gg l (l.length - 1) = qbq then 1 else 0
noncomputable def qbp (w : Int) : List (List Gl) → Int
 | [] => 0
 | l :: ls => if qbi w l = 0 then qbp w ls else qbi w l
noncomputable def qbo (w h : Int) (rows : List (List Gl)) (r c : Int) : Int :=
 if sizB w h = false then 2 else if ¬ (rows.length : Int) = h then 11 else if r < 0 then 2 else if h ≤ r then 2 else if c < 0 then 2 else if w ≤ c then 2 else qbp w rows
def CkI (w : Int) (rows : List (List Gl)) (xs : List TV) : Prop := ∃ i : Nat, xs = [.int i] ∧ i ≤ rows.length ∧ qbp w rows = qbp w (rows.drop i)
def CgI (l : List Gl) (xs : List TV) : Prop := ∃ j : Nat, xs = [.int j] ∧ j ≤ l.length ∧ glErr l = glErr (l.drop j)
theorem qbl {w : Int} {l : List Gl} (h : glErr l = 0) (k : w < widG l) : qbi w l = 12 := by unfold qbi; rw [if_neg (by simpa using h), if_pos k]
theorem qbm {w : Int} {l : List Gl} (h : glErr l = 0) (k : ¬ w < widG l) (hn : 0 < l.length) (hb : gg l (l.length - 1) = qbq) : qbi w l = 1 := by unfold qbi; rw [if_neg (by simpa using h), if_neg k, if_pos ⟨hn, hb⟩]
theorem qbn {w : Int} {l : List Gl} (h : glErr l = 0) (k : ¬ w < widG l) (hb : ¬ (0 < l.length ∧ gg l (l.length - 1) = qbq)) : qbi w l = 0 := by unfold qbi; rw [if_neg (by simpa using h), if_neg k, if_neg hb]
def pckL : Law := ⟨fun ts => ∃ (w : Int) (h : Int) (rows : List (List Gl)) (r : Int) (c : Int) (vis : Bool), ts = [.agg [.int w, .int h, rowsT rows, .int r, .int c, .bool vis]] ∧ (SmallV rows), fun ts z₀ => ∀ (w : Int) (h : Int) (rows : List (List Gl)) (r : Int) (c : Int) (vis : Bool), ts = [.agg [.int w, .int h, rowsT rows, .int r, .int c, .bool vis]] → z₀ = .int (qbo w h rows r c)⟩
theorem pck_pre {w : Int} {h : Int} {rows : List (List Gl)} {r : Int} {c : Int} {vis : Bool} (h₀ : SmallV rows) : pckL.pre [.agg [.int w, .int h, rowsT rows, .int r, .int c, .bool vis]] := ⟨w, h, rows, r, c, vis, rfl, h₀⟩
theorem pck_fin {w : Int} {h : Int} {rows : List (List Gl)} {r : Int} {c : Int} {vis : Bool} {z₀ : TV} (h₀ : z₀ = .int (qbo w h rows r c)) : pckL.post [.agg [.int w, .int h, rowsT rows, .int r, .int c, .bool vis]] z₀ := fun w₁ h₁ rows₁ r₁ c₁ vis₁ e => by
 simp only [qy, rowsT_eq] at e; obtain ⟨rfl, rfl, rfl, rfl, rfl, rfl⟩ := e
 exact h₀
theorem pck_all {w : Int} {h : Int} {rows : List (List Gl)} {r : Int} {c : Int} {vis : Bool} {Q : TV → Prop} : (∀ z₀, pckL.post [.agg [.int w, .int h, rowsT rows, .int r, .int c, .bool vis]] z₀ → Q z₀) ↔ Q (.int (qbo w h rows r c)) := ⟨fun h₀ => h₀ _ (pck_fin rfl), fun h₀ z₀ hr => by rw [hr _ _ _ _ _ _ rfl]; exact h₀⟩
theorem pck_c (k : Nat) : Contract Tryz.prog (mkEnv globT []) gtabU (qcj k) pckL.pre pckL.post := Contract.env (Γ := mkEnv globT [psizL, pblankL, pglL, pwidL]) (qep (fun _ => rfl) (fun s hs => by
  simp only [cx_view_Check, List.mem_cons, List.not_mem_nil, or_false] at hs
  rcases hs with rfl | rfl | rfl | rfl
  ·exact Contract.inEnv rfl (psiz_c 0) rfl
  ·exact Contract.inEnv rfl (pblank_c 1) rfl
  ·exact Contract.inEnv rfl (pgl_c 2) rfl
  ·exact Contract.inEnv rfl (pwid_c 3) rfl) k (by
 rintro ts hl ⟨w, h, rows, r, c, vis, rfl, hp⟩
 have hfin : ∀ z₀ : TV, z₀ = .int (qbo w h rows r c) → pckL.post [.agg [.int w, .int h, rowsT rows, .int r, .int c, .bool vis]] z₀ := fun z₀ hz₀ => pck_fin hz₀
 generalize pckL.post [.agg [.int w, .int h, rowsT rows, .int r, .int c, .bool vis]] = R at hfin ⊢
 unfold tr_view_Check
 obtain ⟨hr12, hrs⟩ := hp
 unfold qbo at hfin
 cases hsz : sizB w h with
 | false =>
  simp only [Tree.den, E.den, P1.den, P2.den, P3.den, TV.cell, ne_eq, forall_eq, Int.reduceToNat, exists_eq_left', qz, psiz_all, hsz]
  exact ⟨psiz_pre trivial, fun _ => hfin _ (by rw [if_pos hsz]), fun h => absurd h (by simp)⟩
 | true =>
  rw [if_neg (by rw [hsz]; simp)] at hfin
  simp only [Tree.den, E.den, P1.den, P2.den, P3.den, TV.cell, ne_eq, forall_eq, Int.reduceToNat, exists_eq_left', qz, psiz_all, hsz, qbj, qbh, List.length_map]
  refine ⟨psiz_pre trivial, fun h => absurd h (by simp), fun _ => ⟨fun h1 => hfin _ (by rw [if_pos h1]), fun h1 => ⟨fun h2 => hfin _ ?_, fun h2 => ⟨fun h3 => hfin _ ?_, fun h3 => ⟨fun h4 => hfin _ ?_, fun h4 => ⟨fun h5 => hfin _ ?_, fun h5 => ?_⟩⟩⟩⟩⟩⟩
  ·rw [if_neg (by simpa using h1), if_pos h2]
  ·rw [if_neg (by simpa using h1), if_neg h2, if_pos h3]
  ·rw [if_neg (by simpa using h1), if_neg h2, if_neg h3, if_pos h4]
  ·rw [if_neg (by simpa using h1), if_neg h2, if_neg h3, if_neg h4, if_pos h5]
  rw [if_neg (by simpa using h1), if_neg h2, if_neg h3, if_neg h4, if_neg h5] at hfin
  refine ⟨CkI w rows, Grm rows.length, ⟨0, rfl, by omega, by rw [List.drop_zero]⟩, ?_⟩
  rintro xs _ ⟨i, rfl, hi, he⟩
  have hD : Grm rows.length [.int (i : Int)] = rows.length - i := rfl
  have e64 : IntKind.wrap .i64 ((i : Int) + 1) = ((i + 1 : Nat) : Int) := by rw [wrap_i64 (n := (i : Int) + 1) (by omega) (by omega)]; omega
  by_cases hil : i < rows.length
  ·rw [qbt hil] at he
   simp only [qbp] at he
   obtain ⟨hl140, hl40⟩ := hrs _ (rr_mem hil)
   have go : qbi w (rr rows i) = 0 → CkI w rows [.int ((i + 1 : Nat) : Int)] ∧ Grm rows.length [.int ((i + 1 : Nat) : Int)] < rows.length - i := fun h0 => by
    refine ⟨⟨i + 1, rfl, by omega, by rw [he, if_pos h0]⟩, ?_⟩
    simp only [Grm, List.getD_cons_zero, zac]; omega
   have hfin : ∀ z : TV, (¬ qbi w (rr rows i) = 0 ∧ z = .int (qbi w (rr rows i))) → R z := fun z hz => hfin z (by rw [he, if_neg hz.1]; exact hz.2)
   simp only [Tree.den, E.den, P1.den, P2.den, P3.den, TV.cell, ne_eq, forall_eq, Int.reduceToNat, exists_eq_left', qz, hD, e64, qbj, qbh, List.length_map, Int.toNat_natCast, qbv hil, zbo, zaw]
   refine ⟨fun _ => ⟨by omega, by omega, CgI (rr rows i), Grm (rr rows i).length, ⟨0, rfl, by omega, by rw [List.drop_zero]⟩, ?_⟩, fun h => by omega⟩
   rintro ys _ ⟨j, rfl, hj, hg⟩
   have hE : Grm (rr rows i).length [.int (j : Int)] = (rr rows i).length - j := rfl
   have ej : IntKind.wrap .i64 ((j : Int) + 1) = ((j + 1 : Nat) : Int) := by rw [wrap_i64 (n := (j : Int) + 1) (by omega) (by omega)]; omega
   by_cases hjl : j < (rr rows i).length
   ·rw [zkt hjl] at hg
    simp only [glErr] at hg
    have hs40 := hl40 _ (gg_mem hjl)
    simp only [Tree.den, E.den, P1.den, P2.den, P3.den, TV.cell, ne_eq, forall_eq, Int.reduceToNat, exists_eq_left', qz, zaj, zao, zaq, zan, zap, zam, zal, zar, qv, qq, qr, zak, hE, ej, zbo, zaw, Int.toNat_natCast, zi7 hjl, glT, pgl_all]
    refine ⟨fun _ => ⟨by omega, by omega, pgl_pre (by omega), fun hne => hfin _ ?_, fun h0 => ⟨⟨j + 1, rfl, by omega, by rw [hg, if_pos h0]⟩, ?_⟩⟩, fun h => by omega⟩
    ·have hgl : glErr (rr rows i) = glyZ (gg (rr rows i) j) := by rw [hg, if_neg hne]
     have hre : qbi w (rr rows i) = glyZ (gg (rr rows i) j) := by unfold qbi; rw [hgl, if_pos hne]
     exact ⟨by rw [hre]; exact hne, by rw [hre]⟩
    ·simp only [Grm, List.getD_cons_zero, zac]; omega
   ·have : j = (rr rows i).length := by omega
    subst this
    rw [List.drop_of_length_le (Nat.le_refl _)] at hg
    have hg0 : glErr (rr rows i) = 0 := hg
    have hfin : ∀ z : TV, (¬ qbi w (rr rows i) = 0 ∧ z = .int (qbi w (rr rows i))) → R z := hfin
    by_cases hn0 : 0 < (rr rows i).length
    ·have el1 : IntKind.wrap .i64 (((rr rows i).length : Int) - 1) = (((rr rows i).length - 1 : Nat) : Int) := by rw [wrap_i64 (by omega) (by omega)]; omega
     have hW : w < widG (rr rows i) → R (.int 12) := fun hw => hfin _ ⟨by rw [qbl hg0 hw]; decide, by rw [qbl hg0 hw]⟩
     have hBl : ¬ w < widG (rr rows i) → gg (rr rows i) ((rr rows i).length - 1) = qbq → R (.int 1) := fun hw hb => hfin _ ⟨by rw [qbm hg0 hw hn0 hb]; decide, by rw [qbm hg0 hw hn0 hb]⟩
     simp only [Tree.den, E.den, P1.den, P2.den, P3.den, TV.cell, ne_eq, forall_eq, Int.reduceToNat, exists_eq_left', qz, zaj, zao, zaq, zan, zap, zam, zal, zar, qv, qq, qr, zak, hE, el1, zbo, zaw, pwid_all, Int.toNat_natCast, zi7 (show (rr rows i).length - 1 < (rr rows i).length by omega), glT, pblank_all]
     refine ⟨fun h => by omega, fun _ => ⟨pwid_pre (by omega), hW, fun hw => ⟨fun _ => ⟨by omega, by omega, pblank_pre, ?_⟩, fun h => by omega⟩⟩⟩
     by_cases hb : gg (rr rows i) ((rr rows i).length - 1) = qbq
     ·have hb1 := hBl hw hb
      rw [hb]
      refine ⟨fun _ => hb1, fun h => ?_⟩
      exfalso
      unfold qbq at h
      simp [zab] at h
     ·refine ⟨fun hh => ?_, fun _ => go (qbn hg0 hw fun h => hb h.2)⟩
      exfalso
      apply hb
      generalize gg (rr rows i) ((rr rows i).length - 1) = g at hh ⊢
      obtain ⟨gs, gw, gy⟩ := g
      unfold qbq
      rw [Gl.mk.injEq]
      by_cases e1 : gs = [32] <;> by_cases e2 : gw = false <;> by_cases e3 : gy = 0 <;> simp_all [zab]
    ·simp only [Tree.den, E.den, P1.den, P2.den, P3.den, TV.cell, ne_eq, forall_eq, Int.reduceToNat, exists_eq_left', qz, zaj, zao, zaq, zan, zap, zam, zal, zar, qv, qq, qr, zak, hE, zbo, zaw, pwid_all]
     refine ⟨fun h => by omega, fun _ => ⟨pwid_pre (by omega), fun hw => hfin _ ?_, fun hw => ⟨fun h => by omega, fun _ => go ?_⟩⟩⟩
     ·rw [qbl hg0 hw]
      exact ⟨by decide, rfl⟩
     ·exact qbn hg0 hw fun h => hn0 h.1
  ·have : i = rows.length := by omega
   subst this
   rw [List.drop_of_length_le (Nat.le_refl _)] at he
   simp only [Tree.den, E.den, P1.den, P2.den, P3.den, TV.cell, ne_eq, forall_eq, Int.reduceToNat, exists_eq_left', qz, hD, qbj, qbh, List.length_map]
   exact ⟨fun h => by omega, fun _ => hfin _ (by rw [he]; rfl)⟩)) rfl
theorem glErr_zero : ∀ {l : List Gl}, glErr l = 0 → ∀ g ∈ l, glyZ g = 0
 | [], _, g, hg => by cases hg
 | x :: l, h, g, hg => by
  simp only [glErr] at h
  by_cases hx : glyZ x = 0
  ·rw [if_pos hx] at h
   rcases List.mem_cons.1 hg with rfl | hg
   ·exact hx
   ·exact glErr_zero h g hg
  ·rw [if_neg hx] at h
   exact absurd h hx
theorem rowErr_zero {w : Int} {l : List Gl} (h : qbi w l = 0) : (∀ g ∈ l, glyZ g = 0) ∧ widG l ≤ w := by
 unfold qbi at h
 by_cases h1 : glErr l = 0
 ·rw [if_neg (by simpa using h1)] at h
  refine ⟨glErr_zero h1, ?_⟩
  by_cases h2 : w < widG l
  ·rw [if_pos h2] at h; omega
  ·omega
 ·rw [if_pos h1] at h
  exact absurd h h1
theorem qbu {w : Int} : ∀ {rows : List (List Gl)}, qbp w rows = 0 → ∀ l ∈ rows, (∀ g ∈ l, glyZ g = 0) ∧ widG l ≤ w
 | [], _, l, hl => by cases hl
 | x :: rows, h, l, hl => by
  simp only [qbp] at h
  by_cases hx : qbi w x = 0
  ·rw [if_pos hx] at h
   rcases List.mem_cons.1 hl with rfl | hl
   ·exact rowErr_zero hx
   ·exact qbu h l hl
  ·rw [if_neg hx] at h
   exact absurd h hx
structure PV (w h : Int) (rows : List (List Gl)) (r c : Int) : Prop where
 w1 : 1 ≤ w
 w2 : w ≤ 132
 h1 : 1 ≤ h
 h2 : h ≤ 60
 len : (rows.length : Int) = h
 r1 : 0 ≤ r
 r2 : r < h
 c1 : 0 ≤ c
 c2 : c < w
 rows : ∀ l ∈ rows, (∀ g ∈ l, glyZ g = 0) ∧ widG l ≤ w
theorem proper_view {w h : Int} {rows : List (List Gl)} {r c : Int} (hc : qbo w h rows r c = 0) : PV w h rows r c := by
 unfold qbo at hc
 split at hc
 ·omega
 ·rename_i hs
  split at hc
  ·omega
  ·rename_i h0
   repeat' (split at hc; omega)
   rename_i a1 a2 a3 a4
   have hs : sizB w h = true := by cases hq : sizB w h with
    | true => rfl
    | false => exact absurd hq hs
   unfold sizB at hs
   simp only [Bool.and_eq_true, decide_eq_true_eq] at hs
   exact ⟨hs.1.1.1, hs.1.1.2, hs.1.2, hs.2, Classical.byContradiction h0, by omega, by omega, by omega, by omega, qbu hc⟩
end Go.Proofs.YtlhagkbhojmjpaaGreatDoor
