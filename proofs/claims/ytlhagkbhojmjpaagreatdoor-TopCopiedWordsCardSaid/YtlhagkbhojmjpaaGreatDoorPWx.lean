/- Written by this repo's own program out of its texts. -/
import Derived.Test.YtlhagkbhojmjpaaGreatDoorPWt
set_option linter.unusedSimpArgs false
set_option linter.unusedVariables false
set_option linter.unusedSectionVars false
namespace Go.Proofs.YtlhagkbhojmjpaaGreatDoor
def runL (k : Nat) : List Gl → Nat
 | [] => 0
 | g :: l => if segK g = k then runL k l + 1 else 0
def segF : Nat → List Gl → Nat → List (Nat × Nat)
 | 0, _, _ => []
 | f + 1, l, a => match l with
  | [] => []
  | g :: t => (if segK g ≠ 0 then [(a, a + 1 + runL (segK g) t)] else []) ++ segF f (t.drop (runL (segK g) t)) (a + 1 + runL (segK g) t)
theorem run_le (k : Nat) : ∀ l, runL k l ≤ l.length
 | [] => Nat.le_refl _
 | g :: l => by
  unfold runL
  have := run_le k l
  rw [List.length_cons]
  split <;> omega
theorem run_take (k : Nat) : ∀ l : List Gl, ∀ g ∈ l.take (runL k l), segK g = k
 | [], g, h => by simp at h
 | x :: l, g, h => by
  unfold runL at h
  split at h
  ·rw [List.take_succ_cons] at h
   rcases List.mem_cons.1 h with rfl | h
   ·assumption
   ·exact run_take k l g h
  ·simp at h
def subG (l : List Gl) (s : Nat × Nat) : List Gl := (l.drop s.1).take (s.2 - s.1)
theorem seg_ok (L : List Gl) : ∀ (f a : Nat), a ≤ L.length → ∀ s ∈ segF f (L.drop a) a, s.1 < s.2 ∧ s.2 ≤ L.length ∧ ∀ g ∈ subG L s, segK g ≠ 0
 | 0, a, _, s, hs => by cases hs
 | f + 1, a, ha, s, hs => by
  rcases Nat.lt_or_ge a L.length with hlt | hge
  ·have hd := zkt hlt
   have hr := run_le (segK (gg L a)) (L.drop (a + 1))
   have hlen : (L.drop (a + 1)).length = L.length - (a + 1) := List.length_drop
   rw [hd] at hs
   unfold segF at hs
   dsimp only at hs
   rcases List.mem_append.1 hs with hs | hs
   ·split at hs
    ·rename_i hk
     rcases List.mem_singleton.1 hs with rfl
     refine ⟨by show a < a + 1 + _; omega, by show a + 1 + _ ≤ _; omega, fun g hg => ?_⟩
     unfold subG at hg
     dsimp only at hg
     rw [hd, show a + 1 + runL (segK (gg L a)) (L.drop (a + 1)) - a = runL (segK (gg L a)) (L.drop (a + 1)) + 1 by omega, List.take_succ_cons] at hg
     rcases List.mem_cons.1 hg with rfl | hg
     ·exact hk
     ·rw [run_take _ _ g hg]; exact hk
    ·cases hs
   ·rw [List.drop_drop, show a + 1 + runL (segK (gg L a)) (L.drop (a + 1)) = a + 1 + runL (segK (gg L a)) (L.drop (a + 1)) from rfl] at hs
    exact seg_ok L f (a + 1 + runL (segK (gg L a)) (L.drop (a + 1))) (by omega) s hs
  ·rw [List.drop_of_length_le hge] at hs
   cases hs
def spnT (L : List (Nat × Nat)) : TV := .list (L.map fun s => .agg [.int s.1, .int s.2])
theorem spnT_asList (L : List (Nat × Nat)) : (spnT L).asList = L.map fun s => .agg [.int s.1, .int s.2] := rfl
def sq (L : List (Nat × Nat)) (i : Nat) : Nat × Nat := L.getD i (0, 0)
theorem spn_get {L : List (Nat × Nat)} {i : Nat} (h : i < L.length) : (L.map fun s : Nat × Nat => TV.agg [.int s.1, .int s.2]).getD i (.int 0) = .agg [.int (sq L i).1, .int (sq L i).2] := by
 unfold sq
 rw [List.getD_eq_getElem?_getD, List.getElem?_map, List.getD_eq_getElem?_getD, List.getElem?_eq_getElem h]; rfl
theorem spn_drop {L : List (Nat × Nat)} {i : Nat} (h : i < L.length) : L.drop i = sq L i :: L.drop (i + 1) := by
 unfold sq
 rw [List.drop_eq_getElem_cons h, List.getD_eq_getElem?_getD, List.getElem?_eq_getElem h]; rfl
theorem sq_mem {L : List (Nat × Nat)} {i : Nat} (h : i < L.length) : sq L i ∈ L := by
 unfold sq
 rw [List.getD_eq_getElem?_getD, List.getElem?_eq_getElem h]
 exact List.getElem_mem _
def findS (L : List (Nat × Nat)) (i : Int) : Option (Nat × Nat) := L.find? fun s => decide ((s.1 : Int) ≤ i ∧ i < (s.2 : Int))
def segW (l : List Gl) : List (Nat × Nat) := segF l.length l 0
theorem segW_ok (l : List Gl) : ∀ s ∈ segW l, s.1 < s.2 ∧ s.2 ≤ l.length ∧ ∀ g ∈ subG l s, segK g ≠ 0 := fun s hs => by
 refine seg_ok l l.length 0 (by omega) s ?_
 rw [List.drop_zero]
 exact hs
def swdL : Law := ⟨fun ts => ∃ (l : List Gl), ts = [glsT l] ∧ (l.length ≤ 10000), fun ts z₀ => ∀ (l : List Gl), ts = [glsT l] → z₀ = spnT (segW l)⟩
theorem swd_pre {l : List Gl} (h : l.length ≤ 10000) : swdL.pre [glsT l] := ⟨l, rfl, h⟩
theorem swd_fin {l : List Gl} {z₀ : TV} (h : z₀ = spnT (segW l)) : swdL.post [glsT l] z₀ := fun l₁ e => by
 simp only [qy, zzx] at e; subst e
 exact h
theorem swd_all {l : List Gl} {Q : TV → Prop} : (∀ z₀, swdL.post [glsT l] z₀ → Q z₀) ↔ Q (spnT (segW l)) := ⟨fun h => h _ (swd_fin rfl), fun h z₀ hr => by rw [hr _ rfl]; exact h⟩
theorem sub_gls (l : List Gl) (s : Nat × Nat) : TV.list (((l.map glT).drop s.1).take (s.2 - s.1)) = glsT (subG l s) := by
 unfold subG glsT
 rw [← List.map_drop, ← List.map_take]
def heardL : Law := ⟨fun ts => ∃ (l : List Gl) (r : Int) (dg : Bool) (sp : Bool) (rp : Int) (ct : Bool) (ce : Int), ts = [glsT l, .agg [.int r, .bool dg, .bool sp, .int rp, .bool ct, .int ce]] ∧ (gooG l ∧ l.length ≤ 140), fun ts z₀ => ∀ (l : List Gl) (r : Int) (dg : Bool) (sp : Bool) (rp : Int) (ct : Bool) (ce : Int), ts = [glsT l, .agg [.int r, .bool dg, .bool sp, .int rp, .bool ct, .int ce]] → z₀ = .agg [.str (txG l), .bool true]⟩
theorem heard_pre {l : List Gl} {r : Int} {dg : Bool} {sp : Bool} {rp : Int} {ct : Bool} {ce : Int} (h : gooG l ∧ l.length ≤ 140) : heardL.pre [glsT l, .agg [.int r, .bool dg, .bool sp, .int rp, .bool ct, .int ce]] := ⟨l, r, dg, sp, rp, ct, ce, rfl, h⟩
theorem heard_fin {l : List Gl} {r : Int} {dg : Bool} {sp : Bool} {rp : Int} {ct : Bool} {ce : Int} {z₀ : TV} (h : z₀ = .agg [.str (txG l), .bool true]) : heardL.post [glsT l, .agg [.int r, .bool dg, .bool sp, .int rp, .bool ct, .int ce]] z₀ := fun l₁ r₁ dg₁ sp₁ rp₁ ct₁ ce₁ e => by
 simp only [qy, zzx] at e; obtain ⟨rfl, rfl, rfl, rfl, rfl, rfl, rfl⟩ := e
 exact h
theorem heard_all {l : List Gl} {r : Int} {dg : Bool} {sp : Bool} {rp : Int} {ct : Bool} {ce : Int} {Q : TV → Prop} : (∀ z₀, heardL.post [glsT l, .agg [.int r, .bool dg, .bool sp, .int rp, .bool ct, .int ce]] z₀ → Q z₀) ↔ Q (.agg [.str (txG l), .bool true]) := ⟨fun h => h _ (heard_fin rfl), fun h z₀ hr => by rw [hr _ _ _ _ _ _ _ rfl]; exact h⟩
theorem heard_c (k : Nat) : Contract Tryz.prog (mkEnv globT []) gtabU (q4q k) heardL.pre heardL.post := Contract.env (Γ := mkEnv globT [swordsL, sglL, vtextL]) (q5n (fun _ => rfl) (fun s hs => by
  simp only [cx_narratortop_heardText, List.mem_cons, List.not_mem_nil, or_false] at hs
  rcases hs with rfl | rfl | rfl
  ·exact Contract.inEnv rfl (swords_c 0) rfl
  ·exact Contract.inEnv rfl (sgl_c 1) rfl
  ·exact Contract.inEnv rfl (vtext_c 2) rfl) k (by
 rintro ts hl ⟨l, r, dg, sp, rp, ct, ce, rfl, hp⟩
 have hfin : ∀ z₀ : TV, z₀ = .agg [.str (txG l), .bool true] → heardL.post [glsT l, .agg [.int r, .bool dg, .bool sp, .int rp, .bool ct, .int ce]] z₀ := fun z₀ hz₀ => heard_fin hz₀
 generalize heardL.post [glsT l, .agg [.int r, .bool dg, .bool sp, .int rp, .bool ct, .int ce]] = R at hfin ⊢
 unfold tr_narratortop_heardText
 obtain ⟨hg, hl⟩ := hp
 have htx := tx_len16 hg
 obtain ⟨o, ho, ht⟩ := speak_back ⟨sp, dg, rp⟩ l hg
 obtain ⟨hb1, hb2⟩ := speak_bd ⟨sp, dg, rp⟩ l.length l 0 0 none hg
 have hok : OkO o := (parse_out ho).2 (fun g hg => by cases hg)
 have hol := okO_len hok
 rw [ht] at hol
 simp only [Tree.den, E.den, P1.den, P2.den, P3.den, TV.cell, ne_eq, forall_eq, Int.reduceToNat, exists_eq_left', qz, swords_all, sgl_all, glyO_eq ho, vtext_all]
 refine ⟨swords_pre ⟨hg, by omega⟩, sgl_pre ⟨o, ho, by omega, by omega, fun w hw => ?_⟩, vtext_pre ⟨by omega, by rw [ht]; omega⟩, hfin _ (by rw [ht]; rfl)⟩
 have := hb2 w hw
 omega)) rfl
theorem star_check : zbf [42] = 0 := by decide +kernel
theorem star_speak : qu1 ⟨false, false, 0⟩ 1 [⟨[42], false, 0⟩] 0 0 none = [[115, 116, 97, 114]] := by decide +kernel
def starL : Law := ⟨fun ts => ts = [], fun ts z₀ => ts = [] → z₀ = .bool true⟩
theorem star_pre : starL.pre [] := rfl
theorem star_fin {z₀ : TV} (h : z₀ = .bool true) : starL.post [] z₀ := fun _ => h
theorem star_all {Q : TV → Prop} : (∀ z₀, starL.post [] z₀ → Q z₀) ↔ Q (.bool true) := ⟨fun h => h _ fun _ => rfl, fun h z₀ hr => by rw [hr rfl]; exact h⟩
theorem star_c (k : Nat) : Contract Tryz.prog (mkEnv globT []) gtabU (q4p k) starL.pre starL.post := Contract.env (Γ := mkEnv globT [swordsL]) (q5k (fun _ => rfl) (fun s hs => by
  simp only [cx_narratortop_speaksStar, List.mem_cons, List.not_mem_nil, or_false] at hs
  rcases hs with rfl
  ·exact Contract.inEnv rfl (swords_c 0) rfl) k (by
 rintro ts hl rfl
 have hfin : ∀ z₀ : TV, z₀ = .bool true → starL.post [] z₀ := fun z₀ hz₀ => star_fin hz₀
 generalize starL.post [] = R at hfin ⊢
 unfold tr_narratortop_speaksStar
 have hg : gooG [⟨[42], false, 0⟩] := fun g hg => by
  rcases List.mem_singleton.1 hg with rfl
  exact ⟨star_check, by decide, by decide, by decide⟩
 have hx : TV.list [.agg [.str [42], .bool false, .int 0]] = glsT [⟨[42], false, 0⟩] := rfl
 have hl : ([⟨[42], false, 0⟩] : List Gl).length = 1 := rfl
 simp only [Tree.den, E.den, P1.den, P2.den, P3.den, TV.cell, ne_eq, forall_eq, Int.reduceToNat, exists_eq_left', qz, hx, swords_all, hl, star_speak]
 refine ⟨swords_pre ⟨hg, by decide⟩, fun _ => ⟨by decide, hfin _ rfl⟩, fun h => absurd rfl h⟩)) rfl
end Go.Proofs.YtlhagkbhojmjpaaGreatDoor
