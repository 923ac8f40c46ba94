/- Written by this repo's own program out of its texts. -/
import Derived.Test.YtlhagkbhojmjpaaGreatDoorPW1
import Derived.Test.YtlhagkbhojmjpaaGreatDoorPMb
import Derived.Test.YtlhagkbhojmjpaaGreatDoorPMj
import Derived.Test.YtlhagkbhojmjpaaGreatDoorPE1
import Derived.Test.YtlhagkbhojmjpaaGreatDoorPMd
set_option linter.unusedSimpArgs false
set_option linter.unusedVariables false
set_option linter.unusedSectionVars false
namespace Go.Proofs.YtlhagkbhojmjpaaGreatDoor
def tabT (l : List (Int × Int)) : TV := .list (l.map fun p => .agg [.int p.1, .int p.2])
def tg (l : List (Int × Int)) (i : Nat) : Int × Int := l.getD i (0, 0)
theorem zol {l : List (Int × Int)} {i : Nat} (h : i < l.length) : (tabT l).asList.getD i (.int 0) = .agg [.int (tg l i).1, .int (tg l i).2] := by
 unfold tabT tg
 rw [zaa, List.getD_eq_getElem?_getD, List.getElem?_map, List.getD_eq_getElem?_getD, List.getElem?_eq_getElem h]
 rfl
theorem zd9 (l : List (Int × Int)) : (tabT l).asList.length = l.length := by unfold tabT; rw [zaa, List.length_map]
def marksL' : List (Int × Int) := [(768, 879), (6832, 6911), (7616, 7679), (8203, 8207), (8400, 8447), (65024, 65039), (65056, 65071)]
def wideL' : List (Int × Int) := [(4352, 4447), (11904, 12350), (12353, 13311), (13312, 19903), (19968, 40959), (40960, 42191), (44032, 55203), (63744, 64255), (65072, 65135), (65280, 65376), (65504, 65510), (127744, 128591), (129280, 129535), (131072, 262141)]
def inTab (l : List (Int × Int)) (r : Int) : Bool := l.any fun p => decide (p.1 ≤ r) && decide (r ≤ p.2)
def markZ (r : Int) : Bool := inTab marksL' r
def za5 (r : Int) : Int := if r < 32 ∨ (127 ≤ r ∧ r ≤ 159) then -1 else if markZ r then 0 else if inTab wideL' r then 2 else 1
def pmarksL : Law := ⟨fun ts => ts = [], fun ts z₀ => ts = [] → z₀ = tabT marksL'⟩
theorem z38 : pmarksL.pre [] := rfl
theorem z3t {z₀ : TV} (h : z₀ = tabT marksL') : pmarksL.post [] z₀ := fun _ => h
theorem z33 {Q : TV → Prop} : (∀ z₀, pmarksL.post [] z₀ → Q z₀) ↔ Q (tabT marksL') := ⟨fun h => h _ fun _ => rfl, fun h z₀ hr => by rw [hr rfl]; exact h⟩
theorem pmarks_c (k : Nat) : Contract Tryz.prog (mkEnv globT []) gtabU (zfr k) pmarksL.pre pmarksL.post := Contract.env (Γ := mkEnv globT []) (zii (fun _ => rfl) (fun s hs => by
  cases hs) k (by
 rintro ts hl rfl
 have hfin : ∀ z₀ : TV, z₀ = tabT marksL' → pmarksL.post [] z₀ := fun z₀ hz₀ => z3t hz₀
 generalize pmarksL.post [] = R at hfin ⊢
 unfold tr_charwidth_marks
 simp only [Tree.den, E.den, P1.den, P2.den, P3.den, TV.cell, ne_eq, forall_eq, Int.reduceToNat, exists_eq_left', qz]
 exact hfin _ rfl)) rfl
def pwideL : Law := ⟨fun ts => ts = [], fun ts z₀ => ts = [] → z₀ = tabT wideL'⟩
theorem qai : pwideL.pre [] := rfl
theorem qar {z₀ : TV} (h : z₀ = tabT wideL') : pwideL.post [] z₀ := fun _ => h
theorem z9e {Q : TV → Prop} : (∀ z₀, pwideL.post [] z₀ → Q z₀) ↔ Q (tabT wideL') := ⟨fun h => h _ fun _ => rfl, fun h z₀ hr => by rw [hr rfl]; exact h⟩
theorem pwide_c (k : Nat) : Contract Tryz.prog (mkEnv globT []) gtabU (zgy k) pwideL.pre pwideL.post := Contract.env (Γ := mkEnv globT []) (zi0 (fun _ => rfl) (fun s hs => by
  cases hs) k (by
 rintro ts hl rfl
 have hfin : ∀ z₀ : TV, z₀ = tabT wideL' → pwideL.post [] z₀ := fun z₀ hz₀ => qar hz₀
 generalize pwideL.post [] = R at hfin ⊢
 unfold tr_charwidth_Wide
 simp only [Tree.den, E.den, P1.den, P2.den, P3.den, TV.cell, ne_eq, forall_eq, Int.reduceToNat, exists_eq_left', qz]
 exact hfin _ rfl)) rfl
def TabOk (l : List (Int × Int)) : Prop := ∀ i j, i < j → j < l.length → (tg l i).1 ≤ (tg l i).2 ∧ (tg l i).2 < (tg l j).1 ∧ (tg l j).1 ≤ (tg l j).2
def BIW (l : List (Int × Int)) (r : Int) (xs : List TV) : Prop := ∃ lo hi : Nat, xs = [.int lo, .int hi] ∧ lo ≤ hi ∧ hi ≤ l.length ∧ (∀ i, i < lo → (tg l i).2 < r) ∧ (∀ i, hi ≤ i → i < l.length → r ≤ (tg l i).2)
def BmW (xs : List TV) : Nat := (xs.getD 1 (.int 0)).asInt.toNat - (xs.getD 0 (.int 0)).asInt.toNat
theorem zn8 {l : List (Int × Int)} {r : Int} (h : ∀ i, i < l.length → ¬ ((tg l i).1 ≤ r ∧ r ≤ (tg l i).2)) : inTab l r = false := by
 unfold inTab
 rw [List.any_eq_false]
 intro p hp
 obtain ⟨i, hi, rfl⟩ := List.getElem_of_mem hp
 have := h i hi
 unfold tg at this
 rw [List.getD_eq_getElem?_getD, List.getElem?_eq_getElem hi] at this
 simpa using this
theorem z4d {l : List (Int × Int)} {r : Int} {i : Nat} (hi : i < l.length) (h : (tg l i).1 ≤ r ∧ r ≤ (tg l i).2) : inTab l r = true := by
 unfold inTab
 rw [List.any_eq_true]
 refine ⟨l[i], List.getElem_mem hi, ?_⟩
 unfold tg at h
 rw [List.getD_eq_getElem?_getD, List.getElem?_eq_getElem hi] at h
 simpa using h
theorem zqk {l : List (Int × Int)} (ok : TabOk l) {r : Int} {lo : Nat} (h1 : ∀ i, i < lo → (tg l i).2 < r) (h2 : ∀ i, lo ≤ i → i < l.length → r ≤ (tg l i).2) : inTab l r = (decide (lo < l.length) && decide ((tg l lo).1 ≤ r)) := by
 by_cases hl : lo < l.length
 ·rw [decide_eq_true hl, Bool.true_and]
  by_cases hr : (tg l lo).1 ≤ r
  ·rw [decide_eq_true hr]
   exact z4d hl ⟨hr, h2 lo (Nat.le_refl _) hl⟩
  ·rw [decide_eq_false hr]
   refine zn8 fun i hi h => ?_
   rcases Nat.lt_trichotomy i lo with hlt | rfl | hgt
   ·have := h1 i hlt; omega
   ·exact hr h.1
   ·have h3 := ok lo i hgt hi
    have := h2 lo (Nat.le_refl _) hl
    omega
 ·rw [decide_eq_false hl, Bool.false_and]
  refine zn8 fun i hi h => ?_
  have := h1 i (by omega)
  omega
theorem mid_eq {lo hi : Nat} (h : lo ≤ hi) (k : hi ≤ 1000) : IntKind.wrap .i64 ((IntKind.wrap .i64 ((lo : Int) + (hi : Int))).tdiv 2) = (((lo + hi) / 2 : Nat) : Int) := by
 rw [wrap_i64 (n := (lo : Int) + hi) (by omega) (by omega), Int.tdiv_eq_ediv_of_nonneg (by omega), wrap_i64 (by omega) (by omega)]
 omega
theorem zny {l : List (Int × Int)} (ok : TabOk l) {r : Int} {lo hi : Nat} (hlt : lo < hi) (hh : hi ≤ l.length) (h1 : ∀ i, i < lo → (tg l i).2 < r) (h2 : ∀ i, hi ≤ i → i < l.length → r ≤ (tg l i).2) :
  ((tg l ((lo + hi) / 2)).2 < r → BIW l r [.int (((lo + hi) / 2 + 1 : Nat) : Int), .int (hi : Int)] ∧ BmW [.int (((lo + hi) / 2 + 1 : Nat) : Int), .int (hi : Int)] < hi - lo) ∧
  (¬ (tg l ((lo + hi) / 2)).2 < r → BIW l r [.int (lo : Int), .int (((lo + hi) / 2 : Nat) : Int)] ∧ BmW [.int (lo : Int), .int (((lo + hi) / 2 : Nat) : Int)] < hi - lo) := by
 have hm : (lo + hi) / 2 < hi := by omega
 refine ⟨fun h => ⟨⟨_, _, rfl, by omega, hh, fun i hi' => ?_, h2⟩, ?_⟩, fun h => ⟨⟨_, _, rfl, by omega, by omega, h1, fun i hi' hil => ?_⟩, ?_⟩⟩
 ·rcases Nat.lt_or_ge i ((lo + hi) / 2) with hlt' | hge
  ·have := ok i ((lo + hi) / 2) hlt' (by omega); omega
  ·have : i = (lo + hi) / 2 := by omega
   subst this; exact h
 ·simp only [BmW, List.getD_cons_zero, List.getD_cons_succ, zac]; omega
 ·rcases Nat.lt_or_ge ((lo + hi) / 2) i with hlt' | hge
  ·have := ok ((lo + hi) / 2) i hlt' hil; omega
  ·have : i = (lo + hi) / 2 := by omega
   subst this; omega
 ·simp only [BmW, List.getD_cons_zero, List.getD_cons_succ, zac]; omega
theorem z1j : TabOk marksL' := by
 have key : ∀ i j : Fin 7, i.val < j.val → (tg marksL' i.val).1 ≤ (tg marksL' i.val).2 ∧ (tg marksL' i.val).2 < (tg marksL' j.val).1 ∧ (tg marksL' j.val).1 ≤ (tg marksL' j.val).2 := by decide +kernel
 intro i j hij hj
 have : j < 7 := hj
 exact key ⟨i, by omega⟩ ⟨j, this⟩ hij
theorem qa3 : TabOk wideL' := by
 have key : ∀ i j : Fin 14, i.val < j.val → (tg wideL' i.val).1 ≤ (tg wideL' i.val).2 ∧ (tg wideL' i.val).2 < (tg wideL' j.val).1 ∧ (tg wideL' j.val).1 ≤ (tg wideL' j.val).2 := by decide +kernel
 intro i j hij hj
 have : j < 14 := hj
 exact key ⟨i, by omega⟩ ⟨j, this⟩ hij
def markL : Law := ⟨fun ts => ∃ (r : Int), ts = [.int r] ∧ (True), fun ts z₀ => ∀ (r : Int), ts = [.int r] → z₀ = .bool (markZ r)⟩
theorem z1z {r : Int} (h : True) : markL.pre [.int r] := ⟨r, rfl, h⟩
theorem z1u {r : Int} {z₀ : TV} (h : z₀ = .bool (markZ r)) : markL.post [.int r] z₀ := fun r₁ e => by
 simp only [qy] at e; subst e
 exact h
theorem z07 {r : Int} {Q : TV → Prop} : (∀ z₀, markL.post [.int r] z₀ → Q z₀) ↔ Q (.bool (markZ r)) := ⟨fun h => h _ (z1u rfl), fun h z₀ hr => by rw [hr _ rfl]; exact h⟩
theorem mark_c (k : Nat) : Contract Tryz.prog (mkEnv globT []) gtabU (zet k) markL.pre markL.post := Contract.env (Γ := mkEnv globT [pmarksL]) (zi9 (fun _ => rfl) (fun s hs => by
  simp only [cx_charwidth_Mark, List.mem_cons, List.not_mem_nil, or_false] at hs
  rcases hs with rfl
  ·exact Contract.inEnv rfl (pmarks_c 0) rfl) k (by
 rintro ts hl ⟨r, rfl, hp⟩
 have hfin : ∀ z₀ : TV, z₀ = .bool (markZ r) → markL.post [.int r] z₀ := fun z₀ hz₀ => z1u hz₀
 generalize markL.post [.int r] = R at hfin ⊢
 unfold tr_charwidth_Mark
 have hml : marksL'.length = 7 := rfl
 simp only [Tree.den, E.den, P1.den, P2.den, P3.den, TV.cell, ne_eq, forall_eq, Int.reduceToNat, exists_eq_left', qz, z33, zd9, hml]
 refine ⟨z38, BIW marksL' r, BmW, ⟨0, 7, rfl, by omega, by decide, fun i hi => by omega, fun i hi h => by rw [hml] at h; omega⟩, ?_⟩
 rintro xs _ ⟨lo, hi, rfl, h0, h7, h1, h2⟩
 rw [hml] at h7
 have hD : BmW [.int (lo : Int), .int (hi : Int)] = hi - lo := rfl
 have hmid := mid_eq h0 (by omega)
 have e64 : IntKind.wrap .i64 ((((lo + hi) / 2 : Nat) : Int) + 1) = (((lo + hi) / 2 + 1 : Nat) : Int) := by rw [wrap_i64 (by omega) (by omega)]; omega
 by_cases hlt : lo < hi
 ·have hg : (tabT marksL').asList.getD ((lo + hi) / 2) (.int 0) = .agg [.int (tg marksL' ((lo + hi) / 2)).1, .int (tg marksL' ((lo + hi) / 2)).2] := zol (by rw [hml]; omega)
  have hst := zny z1j hlt (by rw [hml]; exact h7) h1 h2
  simp only [Tree.den, E.den, P1.den, P2.den, P3.den, TV.cell, ne_eq, forall_eq, Int.reduceToNat, exists_eq_left', qz, zd9, hml, hD, hmid, e64, Int.toNat_natCast, hg]
  exact ⟨fun _ => ⟨by omega, by omega, hst.1, hst.2⟩, fun h => by omega⟩
 ·have hlh : lo = hi := by omega
  subst hlh
  have hend := zqk z1j h1 h2
  rw [hml] at hend
  simp only [Tree.den, E.den, P1.den, P2.den, P3.den, TV.cell, ne_eq, forall_eq, Int.reduceToNat, exists_eq_left', qz, zd9, hml, hD, Int.toNat_natCast]
  refine ⟨fun h => by omega, fun _ => ⟨fun h => ⟨by omega, by omega, ?_⟩, fun h => ?_⟩⟩
  ·have hg : (tabT marksL').asList.getD lo (.int 0) = .agg [.int (tg marksL' lo).1, .int (tg marksL' lo).2] := zol (by rw [hml]; omega)
   simp only [Tree.den, E.den, P1.den, P2.den, P3.den, TV.cell, ne_eq, forall_eq, Int.reduceToNat, exists_eq_left', qz, hg]
   refine hfin _ ?_
   unfold markZ
   rw [hend, decide_eq_true (show lo < 7 by omega), Bool.true_and]
  ·refine hfin _ ?_
   unfold markZ
   rw [hend, decide_eq_false (show ¬ lo < 7 by omega), Bool.false_and])) rfl
def widthL : Law := ⟨fun ts => ∃ (r : Int), ts = [.int r] ∧ (True), fun ts z₀ => ∀ (r : Int), ts = [.int r] → z₀ = .int (za5 r)⟩
theorem zc0 {r : Int} (h : True) : widthL.pre [.int r] := ⟨r, rfl, h⟩
theorem zw0 {r : Int} {z₀ : TV} (h : z₀ = .int (za5 r)) : widthL.post [.int r] z₀ := fun r₁ e => by
 simp only [qy] at e; subst e
 exact h
theorem zcf {r : Int} {Q : TV → Prop} : (∀ z₀, widthL.post [.int r] z₀ → Q z₀) ↔ Q (.int (za5 r)) := ⟨fun h => h _ (zw0 rfl), fun h z₀ hr => by rw [hr _ rfl]; exact h⟩
theorem zv5 (k : Nat) : Contract Tryz.prog (mkEnv globT []) gtabU (zcc k) widthL.pre widthL.post := Contract.env (Γ := mkEnv globT [pwideL, markL]) (zif (fun _ => rfl) (fun s hs => by
  simp only [cx_charwidth_Width, List.mem_cons, List.not_mem_nil, or_false] at hs
  rcases hs with rfl | rfl
  ·exact Contract.inEnv rfl (pwide_c 0) rfl
  ·exact Contract.inEnv rfl (mark_c 1) rfl) k (by
 rintro ts hl ⟨r, rfl, hp⟩
 have hfin : ∀ z₀ : TV, z₀ = .int (za5 r) → widthL.post [.int r] z₀ := fun z₀ hz₀ => zw0 hz₀
 generalize widthL.post [.int r] = R at hfin ⊢
 unfold tr_charwidth_Width
 have hwl : wideL'.length = 14 := rfl
 have p1 : pwideL.pre [] := qai
 have p2 : markL.pre [.int r] := z1z trivial
 have hinit : BIW wideL' r [.int 0, .int (14 : Nat)] := ⟨0, 14, rfl, by omega, by decide, fun i hi => by omega, fun i hi h => by rw [hwl] at h; omega⟩
 simp only [Tree.den, E.den, P1.den, P2.den, P3.den, TV.cell, ne_eq, forall_eq, Int.reduceToNat, exists_eq_left', qz, z07, z9e, zd9, hwl]
 unfold za5 at hfin
 have hloop : ¬ (r < 32 ∨ (127 ≤ r ∧ r ≤ 159)) → markZ r = false → ∀ xs, BIW wideL' r xs → ∃ lo hi : Nat, xs = [.int lo, .int hi] ∧ lo ≤ hi ∧ hi ≤ 14 ∧ BmW [.int (lo : Int), .int (hi : Int)] = hi - lo ∧ IntKind.wrap .i64 ((IntKind.wrap .i64 ((lo : Int) + (hi : Int))).tdiv 2) = (((lo + hi) / 2 : Nat) : Int) ∧ IntKind.wrap .i64 ((((lo + hi) / 2 : Nat) : Int) + 1) = (((lo + hi) / 2 + 1 : Nat) : Int) ∧
   (lo < hi → (tabT wideL').asList.getD ((lo + hi) / 2) (.int 0) = .agg [.int (tg wideL' ((lo + hi) / 2)).1, .int (tg wideL' ((lo + hi) / 2)).2] ∧
    ((tg wideL' ((lo + hi) / 2)).2 < r → BIW wideL' r [.int (((lo + hi) / 2 + 1 : Nat) : Int), .int (hi : Int)] ∧ BmW [.int (((lo + hi) / 2 + 1 : Nat) : Int), .int (hi : Int)] < hi - lo) ∧
    (¬ (tg wideL' ((lo + hi) / 2)).2 < r → BIW wideL' r [.int (lo : Int), .int (((lo + hi) / 2 : Nat) : Int)] ∧ BmW [.int (lo : Int), .int (((lo + hi) / 2 : Nat) : Int)] < hi - lo)) ∧
   (¬ lo < hi → (lo < 14 → (tabT wideL').asList.getD lo (.int 0) = .agg [.int (tg wideL' lo).1, .int (tg wideL' lo).2] ∧ ((tg wideL' lo).1 ≤ r → R (.int 2)) ∧ (¬ (tg wideL' lo).1 ≤ r → R (.int 1))) ∧ (¬ lo < 14 → R (.int 1))) := by
  intro hr hm xs hxs
  rw [if_neg hr, hm] at hfin
  obtain ⟨lo, hi, rfl, h0, h14, h1, h2⟩ := hxs
  rw [hwl] at h14
  refine ⟨lo, hi, rfl, h0, h14, rfl, mid_eq h0 (by omega), by rw [wrap_i64 (by omega) (by omega)]; omega, fun hlt => ⟨zol (by rw [hwl]; omega), zny qa3 hlt (by rw [hwl]; exact h14) h1 h2⟩, fun hlt => ?_⟩
  have hlh : lo = hi := by omega
  subst hlh
  have hend := zqk qa3 h1 h2
  rw [hwl] at hend
  rw [hend] at hfin
  refine ⟨fun h => ⟨zol (by rw [hwl]; omega), fun h' => hfin _ ?_, fun h' => hfin _ ?_⟩, fun h => hfin _ ?_⟩
  ·rw [decide_eq_true h, decide_eq_true h']; rfl
  ·rw [decide_eq_true h, decide_eq_false h']; rfl
  ·rw [decide_eq_false h]; rfl
 have fin1 : (r < 32 ∨ (127 ≤ r ∧ r ≤ 159)) → R (.int (-1)) := fun h => hfin _ (by rw [if_pos h])
 have fin0 : ¬ (r < 32 ∨ (127 ≤ r ∧ r ≤ 159)) → markZ r = true → R (.int 0) := fun h hm => hfin _ (by rw [if_neg h, hm]; rfl)
 clear hfin
 repeat' (first
  |(exact fin1 (by omega))
  |(exact fin0 (by omega) (by assumption))
  |(refine ⟨BIW wideL' r, BmW, hinit, ?_⟩
    intro xs _ hxs
    obtain ⟨lo, hi, rfl, h0, h14, hD, hmid, e64, hst, hen⟩ := hloop (by omega) (by simpa using ‹_›) xs hxs
    by_cases hlt : lo < hi
    ·obtain ⟨hg, hs1, hs2⟩ := hst hlt
     simp only [Tree.den, E.den, P1.den, P2.den, P3.den, TV.cell, ne_eq, forall_eq, Int.reduceToNat, exists_eq_left', qz, zd9, hwl, hD, hmid, e64, Int.toNat_natCast, hg]
     exact ⟨fun _ => ⟨by omega, by omega, hs1, hs2⟩, fun h => by omega⟩
    ·obtain ⟨he1, he2⟩ := hen hlt
     by_cases hl14 : lo < 14
     ·obtain ⟨hg, h1, h2⟩ := he1 hl14
      simp only [Tree.den, E.den, P1.den, P2.den, P3.den, TV.cell, ne_eq, forall_eq, Int.reduceToNat, exists_eq_left', qz, zd9, hwl, hD, hmid, e64, Int.toNat_natCast, hg]
      exact ⟨fun h => by omega, fun _ => ⟨fun _ => ⟨by omega, by omega, h1, h2⟩, fun h => by omega⟩⟩
     ·simp only [Tree.den, E.den, P1.den, P2.den, P3.den, TV.cell, ne_eq, forall_eq, Int.reduceToNat, exists_eq_left', qz, zd9, hwl, hD, hmid, e64, Int.toNat_natCast]
      exact ⟨fun h => by omega, fun _ => ⟨fun h => by omega, fun _ => he2 hl14⟩⟩)
  |(refine ⟨by assumption, ?_⟩)
  |(refine ⟨fun _ => ?_, fun _ => ?_⟩)))) rfl
end Go.Proofs.YtlhagkbhojmjpaaGreatDoor
namespace Go.Proofs.YtlhagkbhojmjpaaGreatDoor
theorem qam {r : Int} (h : markZ r = true) : isCh r := by
 unfold markZ inTab marksL' at h
 simp at h
 unfold isCh
 omega
theorem zur {r : Int} (h : 0 < za5 r) : za5 (chZ r) = za5 r := by
 unfold chZ
 by_cases hc : isCh r
 ·rw [if_pos hc]
 ·rw [if_neg hc]
  have e : za5 65533 = 1 := by decide
  rw [e]
  unfold isCh at hc
  unfold za5 at h ⊢
  by_cases h1 : r < 32 ∨ (127 ≤ r ∧ r ≤ 159)
  ·rw [if_pos h1] at h; omega
  ·rw [if_neg h1]
   have hm : markZ r = false := by
    cases hm : markZ r with
    | false => rfl
    | true => have := qam hm; unfold isCh at this; omega
   have hw : inTab wideL' r = false := by
    unfold inTab wideL'
    simp
    omega
   rw [hm, hw]
   rfl
theorem mark_chZ {r : Int} (h : markZ r = true) : chZ r = r := zu0 (qam h)
def Cl (c : List Int) : Prop := ∃ b ms, c = b :: ms ∧ 0 < za5 b ∧ (∀ m ∈ ms, markZ m = true) ∧ ms.length ≤ 3
theorem Cl.len {c : List Int} (h : Cl c) : 1 ≤ c.length ∧ c.length ≤ 4 := by
 obtain ⟨b, ms, rfl, _, _, h⟩ := h
 simp; omega
theorem cl_chZ {c : List Int} (h : Cl c) : Cl (c.map chZ) := by
 obtain ⟨b, ms, rfl, h1, h2, h3⟩ := h
 refine ⟨chZ b, ms.map chZ, rfl, by rw [zur h1]; exact h1, fun m hm => ?_, by simpa using h3⟩
 obtain ⟨x, hx, rfl⟩ := List.mem_map.1 hm
 rw [mark_chZ (h2 x hx)]
 exact h2 x hx
def strs (l : List (List UInt8)) : TV := .list (l.map .str)
theorem strs_inj {a b : List (List UInt8)} (h : strs a = strs b) : a = b := by
 unfold strs at h
 simp only [TV.list.injEq] at h
 have := congrArg (List.map TV.asStr) h
 simpa [List.map_map, Function.comp_def, TV.asStr] using this
theorem qhv {a b : List (List UInt8)} : strs a = strs b ↔ a = b := ⟨strs_inj, fun h => by rw [h]⟩
theorem zbc (l : List (List UInt8)) : (strs l).asList = l.map .str := rfl
theorem zgq (l : List (List UInt8)) : (strs l).asList.length = l.length := by rw [zbc, List.length_map]
theorem zvn (l : List (List UInt8)) {i : Nat} (h : i < l.length) : (l.map TV.str).getD i (.int 0) = .str (l.getD i []) := by
 rw [List.getD_eq_getElem?_getD, List.getElem?_map, List.getD_eq_getElem?_getD, List.getElem?_eq_getElem h]
 rfl
def encS (c : List Int) : List UInt8 := unbs (encZ c)
theorem zds (a b : List Int) : encS (a ++ b) = encS a ++ encS b := by unfold encS; rw [zbh]; simp [unbs]
theorem qaz (c : List Int) : bs (encS c) = encZ c := zec fun b hb => zk3 hb
theorem zh5 (c : List Int) : c.length ≤ (encS c).length ∧ (encS c).length ≤ 4 * c.length := by unfold encS; rw [zi3]; exact zcp c
theorem dec_encS (c : List Int) : dec (bs (encS c)) = (c.map chZ, []) := by rw [qaz, zlc]
theorem z2t (c : List Int) : zbl (encS c) := ⟨c.map chZ, zps c, by rw [qaz, zta]⟩
def zbj (s : List UInt8) : List Int := (dec (bs s)).1
theorem zq7 (c : List Int) : zbj (encS c) = c.map chZ := by unfold zbj; rw [dec_encS]
theorem zxb {s : List UInt8} (h : zbl s) : encS (zbj s) = s := by
 unfold encS zbj
 rw [(zej h).2.2.1]
 exact zlo s
theorem zf1 (s : List UInt8) : (zbj s).length ≤ s.length := by unfold zbj; have := zfq (bs s); rw [zak] at this; omega
theorem zvk {s : List UInt8} (h : zbl s) : zbj s = [] ↔ s = [] := ⟨fun e => by have := zxb h; rw [e] at this; exact this.symm, fun e => by subst e; rfl⟩
def headZ (l : List Int) : Int := l.getD 0 0
def zgd (l : List Int) : Int := if za5 (headZ l) < 1 ∨ ¬ ((l.drop 1).all markZ = true) then 9 else if 4 < l.length then 5 else 0
def zbf (s : List UInt8) : Int := if s = [] ∨ ¬ Lib.validD s = true then 3 else zgd (zbj s)
theorem check_iff {s : List UInt8} : zbf s = 0 ↔ zbl s ∧ Cl (zbj s) := by
 unfold zbf
 by_cases h : s = [] ∨ ¬ Lib.validD s = true
 ·rw [if_pos h]
  refine ⟨fun h => by omega, fun ⟨h1, h2⟩ => ?_⟩
  rcases h with h | h
  ·subst h
   have := h2.len
   have e : zbj [] = [] := rfl
   rw [e] at this
   simp at this
  ·exact absurd ((zbp s).2 h1) h
 ·rw [if_neg h]
  have h1 : s ≠ [] := fun e => h (.inl e)
  have h2 : zbl s := (zbp s).1 (Classical.byContradiction fun e => h (.inr e))
  have hne : zbj s ≠ [] := fun e => h1 ((zvk h2).1 e)
  cases hr : zbj s with
  | nil => exact absurd hr hne
  | cons b ms =>
   unfold zgd headZ
   simp only [List.getD_cons_zero, List.drop_succ_cons, List.drop_zero, List.length_cons, List.all_eq_true]
   by_cases hc : za5 b < 1 ∨ ¬ (∀ x ∈ ms, markZ x = true)
   ·rw [if_pos hc]
    refine ⟨fun h => by omega, fun ⟨_, b', ms', e, k1, k2, _⟩ => ?_⟩
    simp only [List.cons.injEq] at e
    obtain ⟨rfl, rfl⟩ := e
    rcases hc with hc | hc
    ·omega
    ·exact absurd k2 hc
   ·rw [if_neg hc]
    have k1 : 0 < za5 b := by
     rcases Int.lt_or_le 0 (za5 b) with h | h
     ·exact h
     ·exact absurd (.inl (by omega)) hc
    have k2 : ∀ x ∈ ms, markZ x = true := Classical.byContradiction fun e => hc (.inr e)
    split
    ·refine ⟨fun h => by omega, fun ⟨_, b', ms', e, _, _, k3⟩ => ?_⟩
     simp only [List.cons.injEq] at e
     obtain ⟨rfl, rfl⟩ := e
     omega
    ·exact ⟨fun _ => ⟨h2, b, ms, rfl, k1, k2, by omega⟩, fun _ => rfl⟩
theorem z34 {c : List Int} (h : Cl c) : zbf (encS c) = 0 := check_iff.2 ⟨z2t c, by rw [zq7]; exact cl_chZ h⟩
def zc7 (s : List UInt8) : Int := if zbf s = 0 then za5 (headZ (zbj s)) else 0
def qcw (s : List UInt8) : List Int := if zbf s = 0 then (zbj s).drop 1 else []
def qcf (s : List UInt8) (m : Int) : TV := if zbf s = 0 then (if markZ m = true then (if 3 ≤ (qcw s).length then .agg [.str [], .int 5] else .agg [.str (s ++ encS [m]), .int 0]) else .agg [.str [], .int 9]) else .agg [.str [], .int (zbf s)]
end Go.Proofs.YtlhagkbhojmjpaaGreatDoor
namespace Go.Proofs.YtlhagkbhojmjpaaGreatDoor
theorem ztd (c : List Int) : unbs (encZ c) = encS c := rfl
theorem zjx {r : Int} (h : -2147483648 ≤ r ∧ r ≤ 2147483647) : Run [r] := fun n hn => by simp at hn; subst hn; exact h
theorem zh2 (l : List Int) (i j : Nat) : TV.list (((l.map TV.int).drop i).take j) = ints ((l.drop i).take j) := by unfold ints; rw [List.map_take, List.map_drop]
theorem zb3 (l : List Int) (i : Nat) : TV.list (((l.map TV.int).drop i).take (l.length - i)) = ints (l.drop i) := by rw [zh2, List.take_of_length_le (by rw [List.length_drop]; omega)]
def validL : Law := ⟨fun ts => ∃ (s : List UInt8), ts = [.str s] ∧ (s.length ≤ 9223372036854775807), fun ts z₀ => ∀ (s : List UInt8), ts = [.str s] → z₀ = .bool (Lib.validD s)⟩
theorem zf7 {s : List UInt8} (h : s.length ≤ 9223372036854775807) : validL.pre [.str s] := ⟨s, rfl, h⟩
theorem zkx {s : List UInt8} {z₀ : TV} (h : z₀ = .bool (Lib.validD s)) : validL.post [.str s] z₀ := fun s₁ e => by
 simp only [qy] at e; subst e
 exact h
theorem zga {s : List UInt8} {Q : TV → Prop} : (∀ z₀, validL.post [.str s] z₀ → Q z₀) ↔ Q (.bool (Lib.validD s)) := ⟨fun h => h _ (zkx rfl), fun h z₀ hr => by rw [hr _ rfl]; exact h⟩
theorem zyh (k : Nat) : Contract Tryz.prog (mkEnv globT []) gtabU (zcr k) validL.pre validL.post := Contract.env (Γ := mkEnv globT [validSL]) (zee (fun _ => rfl) (fun s hs => by
  simp only [cx_utf8stream_Valid, List.mem_cons, List.not_mem_nil, or_false] at hs
  rcases hs with rfl
  ·exact Contract.inEnv rfl (z64 0) rfl) k (by
 rintro ts hl ⟨s, rfl, hp⟩
 have hfin : ∀ z₀ : TV, z₀ = .bool (Lib.validD s) → validL.post [.str s] z₀ := fun z₀ hz₀ => zkx hz₀
 generalize validL.post [.str s] = R at hfin ⊢
 unfold tr_utf8stream_Valid
 simp only [Tree.den, E.den, P1.den, P2.den, P3.den, TV.cell, ne_eq, forall_eq, Int.reduceToNat, exists_eq_left', qz, zxc]
 exact ⟨zxf hp, hfin _ rfl⟩)) rfl
def markedL : Law := ⟨fun ts => ∃ (l : List Int), ts = [ints l] ∧ (l.length ≤ 1000000), fun ts z₀ => ∀ (l : List Int), ts = [ints l] → z₀ = .bool (l.all markZ)⟩
theorem z3l {l : List Int} (h : l.length ≤ 1000000) : markedL.pre [ints l] := ⟨l, rfl, h⟩
theorem zri {l : List Int} {z₀ : TV} (h : z₀ = .bool (l.all markZ)) : markedL.post [ints l] z₀ := fun l₁ e => by
 simp only [qy] at e; subst e
 exact h
theorem z22 {l : List Int} {Q : TV → Prop} : (∀ z₀, markedL.post [ints l] z₀ → Q z₀) ↔ Q (.bool (l.all markZ)) := ⟨fun h => h _ (zri rfl), fun h z₀ hr => by rw [hr _ rfl]; exact h⟩
def MI (l : List Int) (xs : List TV) : Prop := ∃ k : Nat, xs = [.int k] ∧ k ≤ l.length ∧ l.all markZ = (l.drop k).all markZ
def Mm (l : List Int) (xs : List TV) : Nat := l.length - (xs.getD 0 (.int 0)).asInt.toNat
theorem zm6 {l : List Int} {k : Nat} (h : k < l.length) (p : Int → Bool) : (l.drop k).all p = (p (l.getD k 0) && (l.drop (k + 1)).all p) := by
 rw [List.drop_eq_getElem_cons h, List.all_cons, List.getD_eq_getElem?_getD, List.getElem?_eq_getElem h]
 rfl
theorem marked_c (k : Nat) : Contract Tryz.prog (mkEnv globT []) gtabU (zgi k) markedL.pre markedL.post := Contract.env (Γ := mkEnv globT [markL]) (zjm (fun _ => rfl) (fun s hs => by
  simp only [cx_cluster_marked, List.mem_cons, List.not_mem_nil, or_false] at hs
  rcases hs with rfl
  ·exact Contract.inEnv rfl (mark_c 0) rfl) k (by
 rintro ts hl ⟨l, rfl, hp⟩
 have hfin : ∀ z₀ : TV, z₀ = .bool (l.all markZ) → markedL.post [ints l] z₀ := fun z₀ hz₀ => zri hz₀
 generalize markedL.post [ints l] = R at hfin ⊢
 unfold tr_cluster_marked
 simp only [Tree.den, E.den, P1.den, P2.den, P3.den, TV.cell, ne_eq, forall_eq, Int.reduceToNat, exists_eq_left', qz]
 simp only [Tree.den, E.den, P1.den, P2.den, P3.den, TV.cell, ne_eq, forall_eq, Int.reduceToNat, exists_eq_left', qz, zaj, zao, zaq, zan, zap, zam, zal, zar, qv, qq, qr, zak]
 refine ⟨MI l, Mm l, ⟨0, rfl, by omega, by rw [List.drop_zero]⟩, ?_⟩
 rintro xs _ ⟨k, rfl, hk, he⟩
 have hD : Mm l [.int (k : Int)] = l.length - k := rfl
 have e64 : IntKind.wrap .i64 ((k : Int) + 1) = ((k + 1 : Nat) : Int) := by rw [wrap_i64 (n := (k : Int) + 1) (by omega) (by omega)]; omega
 simp only [Tree.den, E.den, P1.den, P2.den, P3.den, TV.cell, ne_eq, forall_eq, Int.reduceToNat, exists_eq_left', qz, zaj, zao, zaq, zan, zap, zam, zal, zar, qv, qq, qr, zak, hD, e64, z07]
 refine ⟨fun hlt => ⟨by omega, by omega, z1z trivial, fun h => hfin _ ?_, fun h => ⟨⟨k + 1, rfl, by omega, ?_⟩, ?_⟩⟩, fun hlt => hfin _ ?_⟩
 ·rw [he, zm6 (by omega), h]; rfl
 ·rw [he, zm6 (by omega), h]; rfl
 ·simp only [Mm, List.getD_cons_zero, zac]; omega
 ·rw [he, List.drop_of_length_le (by omega)]; rfl)) rfl
theorem zq6 : zbf [] = 3 := by unfold zbf; rw [if_pos (.inl rfl)]
theorem zrc {s : List UInt8} (h : ¬ zbl s) : zbf s = 3 := by unfold zbf; rw [if_pos (.inr (by rw [zbp]; exact h))]
theorem zrv {s : List UInt8} (hn : s ≠ []) (h : zbl s) : zbf s = zgd (zbj s) := by
 unfold zbf
 rw [if_neg (by rw [zbp]; exact fun e => e.elim hn fun e => e h)]
theorem zd6 {s : List UInt8} (h : ¬ zbl s) : Lib.validD s = false := by
 cases hv : Lib.validD s with
 | false => rfl
 | true => exact absurd ((zbp s).1 hv) h
theorem runesOf {s : List UInt8} (h : zbl s) : TV.list (zgu s) = ints (zbj s) := by rw [zko h]; rfl
theorem zuf {s : List UInt8} (hn : s ≠ []) (h : zbl s) : 0 < (zbj s).length := by
 have : zbj s ≠ [] := fun e => hn ((zvk h).1 e)
 exact List.length_pos_iff.2 this
def checkL : Law := ⟨fun ts => ∃ (s : List UInt8), ts = [.str s] ∧ (s.length ≤ 1000000), fun ts z₀ => ∀ (s : List UInt8), ts = [.str s] → z₀ = .int (zbf s)⟩
theorem qa2 {s : List UInt8} (h : s.length ≤ 1000000) : checkL.pre [.str s] := ⟨s, rfl, h⟩
theorem zwa {s : List UInt8} {z₀ : TV} (h : z₀ = .int (zbf s)) : checkL.post [.str s] z₀ := fun s₁ e => by
 simp only [qy] at e; subst e
 exact h
theorem z93 {s : List UInt8} {Q : TV → Prop} : (∀ z₀, checkL.post [.str s] z₀ → Q z₀) ↔ Q (.int (zbf s)) := ⟨fun h => h _ (zwa rfl), fun h z₀ hr => by rw [hr _ rfl]; exact h⟩
theorem check_c (k : Nat) : Contract Tryz.prog (mkEnv globT []) gtabU (zh7 k) checkL.pre checkL.post := Contract.env (Γ := mkEnv globT [widthL, validL, markedL]) (zju (fun _ => rfl) (fun s hs => by
  simp only [cx_cluster_Check, List.mem_cons, List.not_mem_nil, or_false] at hs
  rcases hs with rfl | rfl | rfl
  ·exact Contract.inEnv rfl (zv5 0) rfl
  ·exact Contract.inEnv rfl (zyh 1) rfl
  ·exact Contract.inEnv rfl (marked_c 2) rfl) k (by
 rintro ts hl ⟨s, rfl, hp⟩
 have hfin : ∀ z₀ : TV, z₀ = .int (zbf s) → checkL.post [.str s] z₀ := fun z₀ hz₀ => zwa hz₀
 generalize checkL.post [.str s] = R at hfin ⊢
 unfold tr_cluster_Check
 by_cases hn : s = []
 ·subst hn
  simp only [Tree.den, E.den, P1.den, P2.den, P3.den, TV.cell, ne_eq, forall_eq, Int.reduceToNat, exists_eq_left', qz]
  exact ⟨fun _ => hfin _ (by rw [zq6]), fun h => absurd trivial h⟩
 by_cases hv : zbl s
 ·have hvt := (zbp s).2 hv
  have hrl := runesOf hv
  have hpos := zuf hn hv
  have hle := zf1 s
  rw [zrv hn hv] at hfin
  generalize zbj s = l at *
  simp only [Tree.den, E.den, P1.den, P2.den, P3.den, TV.cell, ne_eq, forall_eq, Int.reduceToNat, exists_eq_left', qz, zga, hvt, hrl, hn]
  simp only [Tree.den, E.den, P1.den, P2.den, P3.den, TV.cell, ne_eq, forall_eq, Int.reduceToNat, exists_eq_left', qz, zaj, zao, zaq, zan, zap, zam, zal, zar, qv, qq, qr, zak, zb3, zcf, z22]
  have e64 : IntKind.wrap .i64 ((l.length : Int) - 1) = ((l.length - 1 : Nat) : Int) := by rw [wrap_i64 (by omega) (by omega)]; omega
  rw [e64]
  have hh : l.getD 0 0 = headZ l := rfl
  rw [hh]
  unfold zgd at hfin
  refine ⟨fun h => (by simp at h), fun _ => ⟨zf7 (by omega), fun h => (by simp at h), fun _ => ⟨by omega, by omega, zc0 trivial, fun h1 => hfin _ (by rw [if_pos (.inl h1)]), fun h1 => ⟨by omega, z3l (by rw [List.length_drop]; omega), fun h2 => hfin _ (by rw [if_pos (.inr (by rw [h2]; simp))]), fun h2 => ⟨fun h3 => hfin _ ?_, fun h3 => hfin _ ?_⟩⟩⟩⟩⟩
  ·rw [if_neg (by rw [h2]; simp; omega), if_pos (by omega)]
  ·rw [if_neg (by rw [h2]; simp; omega), if_neg (by omega)]
 ·have hvf := zd6 hv
  simp only [Tree.den, E.den, P1.den, P2.den, P3.den, TV.cell, ne_eq, forall_eq, Int.reduceToNat, exists_eq_left', qz, zga, hvf, hn]
  exact ⟨fun h => (by simp at h), fun _ => ⟨zf7 (by omega), fun _ => hfin _ (by rw [zrc hv]), fun h => (by simp at h)⟩⟩)) rfl
def zgf (s : List UInt8) : List Int := if zbf s = 0 then zbj s else []
theorem z3v (s : List UInt8) : (zgf s).length ≤ s.length := by
 unfold zgf
 split
 ·exact zf1 s
 ·simp
def runesL : Law := ⟨fun ts => ∃ (s : List UInt8), ts = [.str s] ∧ (s.length ≤ 1000000), fun ts z₀ => ∀ (s : List UInt8), ts = [.str s] → z₀ = ints (zgf s)⟩
theorem qa4 {s : List UInt8} (h : s.length ≤ 1000000) : runesL.pre [.str s] := ⟨s, rfl, h⟩
theorem zu9 {s : List UInt8} {z₀ : TV} (h : z₀ = ints (zgf s)) : runesL.post [.str s] z₀ := fun s₁ e => by
 simp only [qy] at e; subst e
 exact h
theorem qa8 {s : List UInt8} {Q : TV → Prop} : (∀ z₀, runesL.post [.str s] z₀ → Q z₀) ↔ Q (ints (zgf s)) := ⟨fun h => h _ (zu9 rfl), fun h z₀ hr => by rw [hr _ rfl]; exact h⟩
theorem runes_c (k : Nat) : Contract Tryz.prog (mkEnv globT []) gtabU (zh3 k) runesL.pre runesL.post := Contract.env (Γ := mkEnv globT [checkL]) (zjv (fun _ => rfl) (fun s hs => by
  simp only [cx_cluster_runes, List.mem_cons, List.not_mem_nil, or_false] at hs
  rcases hs with rfl
  ·exact Contract.inEnv rfl (check_c 0) rfl) k (by
 rintro ts hl ⟨s, rfl, hp⟩
 have hfin : ∀ z₀ : TV, z₀ = ints (zgf s) → runesL.post [.str s] z₀ := fun z₀ hz₀ => zu9 hz₀
 generalize runesL.post [.str s] = R at hfin ⊢
 unfold tr_cluster_runes
 simp only [Tree.den, E.den, P1.den, P2.den, P3.den, TV.cell, ne_eq, forall_eq, Int.reduceToNat, exists_eq_left', qz, z93]
 refine ⟨qa2 hp, fun h => hfin _ ?_, fun h => ⟨by omega, hfin _ ?_⟩⟩
 ·unfold zgf; rw [if_neg h]; rfl
 ·have hv := (check_iff.1 h).1
  rw [runesOf hv]
  unfold zgf
  rw [if_pos h])) rfl
theorem z3h {s : List UInt8} : 0 < (zgf s).length ↔ zbf s = 0 := by
 unfold zgf
 by_cases h : zbf s = 0
 ·rw [if_pos h]
  have := (check_iff.1 h).2.len
  exact ⟨fun _ => h, fun _ => by omega⟩
 ·rw [if_neg h]
  exact ⟨fun h' => by simp at h', fun h' => absurd h' h⟩
def marksL : Law := ⟨fun ts => ∃ (s : List UInt8), ts = [.str s] ∧ (s.length ≤ 1000000), fun ts z₀ => ∀ (s : List UInt8), ts = [.str s] → z₀ = ints (qcw s)⟩
theorem marks_pre {s : List UInt8} (h : s.length ≤ 1000000) : marksL.pre [.str s] := ⟨s, rfl, h⟩
theorem qho {s : List UInt8} {z₀ : TV} (h : z₀ = ints (qcw s)) : marksL.post [.str s] z₀ := fun s₁ e => by
 simp only [qy] at e; subst e
 exact h
theorem marks_all {s : List UInt8} {Q : TV → Prop} : (∀ z₀, marksL.post [.str s] z₀ → Q z₀) ↔ Q (ints (qcw s)) := ⟨fun h => h _ (qho rfl), fun h z₀ hr => by rw [hr _ rfl]; exact h⟩
theorem marks_c (k : Nat) : Contract Tryz.prog (mkEnv globT []) gtabU (qps k) marksL.pre marksL.post := Contract.env (Γ := mkEnv globT [runesL]) (qpu (fun _ => rfl) (fun s hs => by
  simp only [cx_cluster_Marks, List.mem_cons, List.not_mem_nil, or_false] at hs
  rcases hs with rfl
  ·exact Contract.inEnv rfl (runes_c 0) rfl) k (by
 rintro ts hl ⟨s, rfl, hp⟩
 have hfin : ∀ z₀ : TV, z₀ = ints (qcw s) → marksL.post [.str s] z₀ := fun z₀ hz₀ => qho hz₀
 generalize marksL.post [.str s] = R at hfin ⊢
 unfold tr_cluster_Marks
 have hl := z3v s
 have hpos := z3h (s := s)
 simp only [Tree.den, E.den, P1.den, P2.den, P3.den, TV.cell, ne_eq, forall_eq, Int.reduceToNat, exists_eq_left', qz, qa8]
 simp only [Tree.den, E.den, P1.den, P2.den, P3.den, TV.cell, ne_eq, forall_eq, Int.reduceToNat, exists_eq_left', qz, zaj, zao, zaq, zan, zap, zam, zal, zar, qv, qq, qr, zak, zb3]
 refine ⟨qa4 hp, fun h => ⟨by omega, hfin _ ?_⟩, fun h => hfin _ ?_⟩
 ·unfold qcw zgf
  rw [if_pos (hpos.1 (by omega)), if_pos (hpos.1 (by omega))]
 ·unfold qcw
  rw [if_neg fun e => h (by have := hpos.2 e; omega)])) rfl
def cwidthL : Law := ⟨fun ts => ∃ (s : List UInt8), ts = [.str s] ∧ (s.length ≤ 1000000), fun ts z₀ => ∀ (s : List UInt8), ts = [.str s] → z₀ = .int (zc7 s)⟩
theorem z2z {s : List UInt8} (h : s.length ≤ 1000000) : cwidthL.pre [.str s] := ⟨s, rfl, h⟩
theorem zr8 {s : List UInt8} {z₀ : TV} (h : z₀ = .int (zc7 s)) : cwidthL.post [.str s] z₀ := fun s₁ e => by
 simp only [qy] at e; subst e
 exact h
theorem z3x {s : List UInt8} {Q : TV → Prop} : (∀ z₀, cwidthL.post [.str s] z₀ → Q z₀) ↔ Q (.int (zc7 s)) := ⟨fun h => h _ (zr8 rfl), fun h z₀ hr => by rw [hr _ rfl]; exact h⟩
theorem cwidth_c (k : Nat) : Contract Tryz.prog (mkEnv globT []) gtabU (zh6 k) cwidthL.pre cwidthL.post := Contract.env (Γ := mkEnv globT [widthL, runesL]) (zjr (fun _ => rfl) (fun s hs => by
  simp only [cx_cluster_Width, List.mem_cons, List.not_mem_nil, or_false] at hs
  rcases hs with rfl | rfl
  ·exact Contract.inEnv rfl (zv5 0) rfl
  ·exact Contract.inEnv rfl (runes_c 1) rfl) k (by
 rintro ts hl ⟨s, rfl, hp⟩
 have hfin : ∀ z₀ : TV, z₀ = .int (zc7 s) → cwidthL.post [.str s] z₀ := fun z₀ hz₀ => zr8 hz₀
 generalize cwidthL.post [.str s] = R at hfin ⊢
 unfold tr_cluster_Width
 have hl := z3v s
 have hpos := z3h (s := s)
 simp only [Tree.den, E.den, P1.den, P2.den, P3.den, TV.cell, ne_eq, forall_eq, Int.reduceToNat, exists_eq_left', qz, qa8]
 simp only [Tree.den, E.den, P1.den, P2.den, P3.den, TV.cell, ne_eq, forall_eq, Int.reduceToNat, exists_eq_left', qz, zaj, zao, zaq, zan, zap, zam, zal, zar, qv, qq, qr, zak, zcf]
 refine ⟨qa4 hp, fun h => ⟨by omega, zc0 trivial, hfin _ ?_⟩, fun h => hfin _ ?_⟩
 ·unfold zc7 zgf
  rw [if_pos (hpos.1 (by omega)), if_pos (hpos.1 (by omega))]
  rfl
 ·unfold zc7
  rw [if_neg fun e => h (by have := hpos.2 e; omega)])) rfl
theorem marksS_len (s : List UInt8) : (qcw s).length ≤ s.length := by
 unfold qcw
 split
 ·rw [List.length_drop]; have := zf1 s; omega
 ·simp
def attachL : Law := ⟨fun ts => ∃ (s : List UInt8) (m : Int), ts = [.str s, .int m] ∧ (s.length ≤ 1000000 ∧ -2147483648 ≤ m ∧ m ≤ 2147483647), fun ts z₀ => ∀ (s : List UInt8) (m : Int), ts = [.str s, .int m] → z₀ = qcf s m⟩
theorem attach_pre {s : List UInt8} {m : Int} (h : s.length ≤ 1000000 ∧ -2147483648 ≤ m ∧ m ≤ 2147483647) : attachL.pre [.str s, .int m] := ⟨s, m, rfl, h⟩
theorem qfm {s : List UInt8} {m : Int} {z₀ : TV} (h : z₀ = qcf s m) : attachL.post [.str s, .int m] z₀ := fun s₁ m₁ e => by
 simp only [qy] at e; obtain ⟨rfl, rfl⟩ := e
 exact h
theorem attach_all {s : List UInt8} {m : Int} {Q : TV → Prop} : (∀ z₀, attachL.post [.str s, .int m] z₀ → Q z₀) ↔ Q (qcf s m) := ⟨fun h => h _ (qfm rfl), fun h z₀ hr => by rw [hr _ _ rfl]; exact h⟩
theorem attach_c (k : Nat) : Contract Tryz.prog (mkEnv globT []) gtabU (qpv k) attachL.pre attachL.post := Contract.env (Γ := mkEnv globT [encL, markL, checkL, marksL]) (qpt (fun _ => rfl) (fun s hs => by
  simp only [cx_cluster_Attach, List.mem_cons, List.not_mem_nil, or_false] at hs
  rcases hs with rfl | rfl | rfl | rfl
  ·exact Contract.inEnv rfl ((enc_c 0).gt za3) rfl
  ·exact Contract.inEnv rfl (mark_c 1) rfl
  ·exact Contract.inEnv rfl (check_c 2) rfl
  ·exact Contract.inEnv rfl (marks_c 3) rfl) k (by
 rintro ts hl ⟨s, m, rfl, hp⟩
 have hfin : ∀ z₀ : TV, z₀ = qcf s m → attachL.post [.str s, .int m] z₀ := fun z₀ hz₀ => qfm hz₀
 generalize attachL.post [.str s, .int m] = R at hfin ⊢
 unfold tr_cluster_Attach
 obtain ⟨hs, hm⟩ := hp
 have hml := marksS_len s
 have hel := (zh5 [m]).2
 have l1 : TV.list [.int m] = ints [m] := rfl
 simp only [Tree.den, E.den, P1.den, P2.den, P3.den, TV.cell, ne_eq, forall_eq, Int.reduceToNat, exists_eq_left', qz, z93, z07, marks_all, l1, zhf]
 simp only [Tree.den, E.den, P1.den, P2.den, P3.den, TV.cell, ne_eq, forall_eq, Int.reduceToNat, exists_eq_left', qz, zaj, zao, zaq, zan, zap, zam, zal, zar, qv, qq, qr, zak, ztd]
 unfold qcf at hfin
 refine ⟨qa2 hs, fun h => hfin _ ?_, fun h => ⟨z1z trivial, fun h1 => hfin _ ?_, fun h1 => ⟨marks_pre hs, fun h2 => hfin _ ?_, fun h2 => ⟨ze3 ⟨zjx hm, by simp⟩, ?_, hfin _ ?_⟩⟩⟩⟩
 ·rw [if_neg h]
 ·rw [if_pos h, if_neg (by rw [h1]; simp)]
 ·rw [if_pos h, if_pos h1, if_pos (by omega)]
 ·simp only [List.length_singleton] at hel; omega
 ·rw [if_pos h, if_pos h1, if_neg (by omega)])) rfl
end Go.Proofs.YtlhagkbhojmjpaaGreatDoor
namespace Go.Proofs.YtlhagkbhojmjpaaGreatDoor
end Go.Proofs.YtlhagkbhojmjpaaGreatDoor
