/- Written by this repo's own program out of its texts. -/
import Derived.Test.YtlhagkbhojmjpaaGreatDoorPSc
set_option linter.unusedSimpArgs false
set_option linter.unusedVariables false
set_option linter.unusedSectionVars false
namespace Go.Proofs.YtlhagkbhojmjpaaGreatDoor
def PiI (g : Gl) (t : List Gl) (k : Int) (xs : List TV) : Prop := ∃ i : Nat, xs = [.int i] ∧ 1 ≤ i ∧ i ≤ 132 ∧ i ≤ t.length + 1 ∧ 1 + sameG g 131 t = i + sameG g (132 - i) (t.drop (i - 1))
def Pim (xs : List TV) : Nat := 132 - (xs.getD 0 (.int 0)).asInt.toNat
theorem gls_zero (g : Gl) (t : List Gl) : ((g :: t).map glT).getD 0 (.int 0) = glT g := rfl
theorem sub_tail (g : Gl) (t : List Gl) : TV.list (((glT g :: t.map glT).drop 1).take (t.length + 1 - 1)) = glsT t := by
 rw [List.drop_succ_cons, List.drop_zero, List.take_of_length_le (by rw [List.length_map]; omega)]; rfl
def gooG (l : List Gl) : Prop := ∀ g ∈ l, GoodG g
def pcN (rp : Int) (l : List Gl) : Nat := quf ⟨false, false, rp⟩ l
def spieceL : Law := ⟨fun ts => ∃ (l : List Gl) (rp : Int), ts = [glsT l, .int rp] ∧ (gooG l ∧ l ≠ [] ∧ l.length ≤ 1000000), fun ts z₀ => ∀ (l : List Gl) (rp : Int), ts = [glsT l, .int rp] → z₀ = .int (pcN rp l)⟩
theorem spiece_pre {l : List Gl} {rp : Int} (h : gooG l ∧ l ≠ [] ∧ l.length ≤ 1000000) : spieceL.pre [glsT l, .int rp] := ⟨l, rp, rfl, h⟩
theorem spiece_fin {l : List Gl} {rp : Int} {z₀ : TV} (h : z₀ = .int (pcN rp l)) : spieceL.post [glsT l, .int rp] z₀ := fun l₁ rp₁ e => by
 simp only [qy, zzx] at e; obtain ⟨rfl, rfl⟩ := e
 exact h
theorem spiece_all {l : List Gl} {rp : Int} {Q : TV → Prop} : (∀ z₀, spieceL.post [glsT l, .int rp] z₀ → Q z₀) ↔ Q (.int (pcN rp l)) := ⟨fun h => h _ (spiece_fin rfl), fun h z₀ hr => by rw [hr _ _ rfl]; exact h⟩
theorem spiece_c (k : Nat) : Contract Tryz.prog (mkEnv globT []) gtabU (qqv k) spieceL.pre spieceL.post := Contract.env (Γ := mkEnv globT [skindL, scountL, scharsL]) (contract_spokentext_piece (fun _ => rfl) (fun s hs => by
  simp only [cx_spokentext_piece, List.mem_cons, List.not_mem_nil, or_false] at hs
  rcases hs with rfl | rfl | rfl
  ·exact Contract.inEnv rfl (skind_c 0) rfl
  ·exact Contract.inEnv rfl (scount_c 1) rfl
  ·exact Contract.inEnv rfl (schars_c 2) rfl) k (by
 rintro ts hl ⟨l, rp, rfl, hp⟩
 have hfin : ∀ z₀ : TV, z₀ = .int (pcN rp l) → spieceL.post [glsT l, .int rp] z₀ := fun z₀ hz₀ => spiece_fin hz₀
 generalize spieceL.post [glsT l, .int rp] = R at hfin ⊢
 unfold tr_spokentext_piece
 obtain ⟨hg, h0, hl⟩ := hp
 obtain ⟨g, t, rfl⟩ : ∃ g t, l = g :: t := by
  cases l with
  | nil => exact absurd rfl h0
  | cons g t => exact ⟨g, t, rfl⟩
 have hgg := (hg g (.head _)).1
 have hlt : (g :: t).length = t.length + 1 := rfl
 rw [hlt] at hl
 have hsl := clus_len hgg
 have he : ∀ c : Nat, (pcN rp (g :: t)) = c → R (.int c) := fun c hc => hfin _ (by rw [hc])
 unfold pcN at he
 rw [qur] at he
 simp only [Tree.den, E.den, P1.den, P2.den, P3.den, TV.cell, ne_eq, forall_eq, Int.reduceToNat, exists_eq_left', qz, zaw, List.map_cons, List.length_map, glT, skind_all, scount_all, List.cons_append, List.nil_append, qr]
 refine ⟨by omega, skind_pre trivial, ?_⟩
 have hk : kindG ⟨g.s, g.w, g.y⟩ = kindG g := rfl
 rw [hk]
 have hst : TV.list (List.take ((((t.length + 1 : Nat) : Int)).toNat - 1) (List.drop 1 (TV.agg [TV.str g.s, TV.bool g.w, TV.int g.y] :: List.map glT t))) = glsT t := by
  rw [Int.toNat_natCast]; exact sub_tail g t
 rw [hst]
 have hc1 := cnt_le 1 g.y t
 have hkz := kind_cases g
 have hn : (((kindG g : Nat) : Int)).toNat = kindG g := rfl
 rw [hn]
 refine ⟨fun h => ⟨scount_pre ⟨by omega, by omega⟩, he _ (if_pos (by omega))⟩, fun h1 => ⟨fun h => ⟨scount_pre ⟨by omega, by omega⟩, he _ (if_pos (by omega))⟩, fun h3 => ⟨fun h2 => ?_, fun h2 => ?_⟩⟩⟩
 ·have h2' : kindG g = 2 := by omega
  rw [if_neg (by omega), if_pos h2'] at he
  simp only [scount_all]
  refine ⟨scount_pre ⟨by omega, by omega⟩, fun h => he _ (if_pos (by omega)), fun h => ⟨by omega, scount_pre ⟨by omega, by omega⟩, ?_⟩⟩
  rw [if_neg (by omega)] at he
  have e1 : IntKind.wrap .i64 (1 + (TV.int ((cntG (Int.toNat 1) g.y t : Nat) : Int)).asInt) = ((1 + cntG 1 g.y t : Nat) : Int) := by
   show IntKind.wrap .i64 (1 + ((cntG 1 g.y t : Nat) : Int)) = _
   rw [wrap_i64 (by omega) (by omega)]; omega
  rw [e1]
  exact he _ rfl
 rw [if_neg (by omega), if_neg (by omega)] at he
 dsimp only at he
 have hend : ∀ i : Nat, 1 + sameG g 131 t = i → (0 < rp → (rp ≤ (i : Int) → scharsL.pre [TV.str g.s] ∧ ((((zbj g.s).length : Nat) : Int) = 1 → R (.int i)) ∧ (¬ (((zbj g.s).length : Nat) : Int) = 1 → R (.int 1))) ∧ (¬ rp ≤ (i : Int) → R (.int 1))) ∧ (¬ 0 < rp → R (.int 1)) := fun i hi => by
  rw [hi] at he
  refine ⟨fun a => ⟨fun b => ⟨schars_pre ⟨hgg, by omega⟩, fun c => he _ (if_pos ⟨a, b, by omega⟩), fun c => he 1 (if_neg (by omega))⟩, fun b => he 1 (if_neg (by omega))⟩, fun a => he 1 (if_neg (by omega))⟩
 refine ⟨PiI g t rp, Pim, ⟨1, rfl, by omega, by omega, by omega, ?_⟩, ?_⟩
 ·rfl
 rintro xs _ ⟨i, rfl, hi1, hi2, hi3, hq⟩
 have hE : i < t.length + 1 → ((TV.agg [TV.str g.s, TV.bool g.w, TV.int g.y] :: List.map glT t).getD i (.int 0)) = glT (gg t (i - 1)) := fun h => by
  obtain ⟨j, rfl⟩ : ∃ j, i = j + 1 := ⟨i - 1, by omega⟩
  rw [List.getD_cons_succ]
  exact zi7 (by omega)
 have ew : IntKind.wrap .i64 ((i : Int) + 1) = ((i + 1 : Nat) : Int) := by rw [wrap_i64 (by omega) (by omega)]; omega
 have et : ((i : Int)).toNat = i := rfl
 simp only [List.getD_cons_zero, zac, qr, schars_all, List.cons_append, List.nil_append, List.getD_cons_succ, zaj, zal, List.length_map, ew, et]
 refine ⟨fun c => ⟨fun d => ?_, fun d => hend i ?_⟩, fun c => hend i ?_⟩
 ·rw [hE (by omega)]
  obtain ⟨j, rfl⟩ : ∃ j, i = j + 1 := ⟨i - 1, by omega⟩
  have hj : j < t.length := by omega
  have hd := zkt hj
  simp only [Nat.add_sub_cancel] at hq hd ⊢
  rw [hd, show 132 - (j + 1) = (130 - j) + 1 by omega] at hq
  generalize gg t j = x at hq ⊢
  simp only [glT, zae, List.getD_cons_zero, List.getD_cons_succ, zac, zab, zad]
  have hss : ∀ (m : Nat) (y : List Gl), sameG g (m + 1) (x :: y) = if x.s = g.s ∧ x.w = g.w ∧ x.y = g.y then sameG g m y + 1 else 0 := fun _ _ => rfl
  rw [hss] at hq
  by_cases hx : x.s = g.s ∧ x.w = g.w ∧ x.y = g.y
  ·rw [if_pos hx] at hq
   rw [if_pos hx.1, if_pos hx.2.1, if_pos hx.2.2]
   refine ⟨by omega, by omega, fun _ => ⟨⟨j + 1 + 1, rfl, by omega, by omega, by omega, ?_⟩, ?_⟩, fun h => (by cases h)⟩
   ·rw [Nat.add_sub_cancel, show 132 - (j + 1 + 1) = 130 - j by omega]; omega
   ·simp only [Pim, List.getD_cons_zero, zac]; omega
  ·rw [if_neg hx] at hq
   have hF : (if x.s = g.s then (if x.w = g.w then (if x.y = g.y then TV.bool true else TV.bool false) else TV.bool false) else TV.bool false) = TV.bool false := by
    split
    ·split
     ·split
      ·exact absurd ⟨‹_›, ‹_›, ‹_›⟩ hx
      ·rfl
     ·rfl
    ·rfl
   rw [hF]
   exact ⟨by omega, by omega, fun h => (by cases h), fun _ => hend (j + 1) (by omega)⟩
 ·have : 132 - i = 0 := by omega
  rw [this] at hq
  have e0 : ∀ z, sameG g 0 z = 0 := fun z => by unfold sameG; rfl
  rw [e0] at hq
  omega
 ·rw [List.drop_of_length_le (by omega)] at hq
  have e0 : ∀ z, sameG g z [] = 0 := fun z => by cases z <;> rfl
  rw [e0] at hq
  omega)) rfl
def SiI (l : List Int) (xs : List TV) : Prop := ∃ i : Nat, xs = [.int i, strs ((l.take i).flatMap qud)] ∧ i ≤ l.length
def Sim (l : List Int) (xs : List TV) : Nat := l.length - (xs.getD 0 (.int 0)).asInt.toNat
def ssingleL : Law := ⟨fun ts => ∃ (s : By) (w : Bool) (y : Int), ts = [.agg [.str s, .bool w, .int y]] ∧ (zbf s = 0), fun ts z₀ => ∀ (s : By) (w : Bool) (y : Int), ts = [.agg [.str s, .bool w, .int y]] → z₀ = strs (qul s)⟩
theorem ssingle_pre {s : By} {w : Bool} {y : Int} (h : zbf s = 0) : ssingleL.pre [.agg [.str s, .bool w, .int y]] := ⟨s, w, y, rfl, h⟩
theorem q4l {s : By} {w : Bool} {y : Int} {z₀ : TV} (h : z₀ = strs (qul s)) : ssingleL.post [.agg [.str s, .bool w, .int y]] z₀ := fun s₁ w₁ y₁ e => by
 simp only [qy] at e; obtain ⟨rfl, rfl, rfl⟩ := e
 exact h
theorem ssingle_all {s : By} {w : Bool} {y : Int} {Q : TV → Prop} : (∀ z₀, ssingleL.post [.agg [.str s, .bool w, .int y]] z₀ → Q z₀) ↔ Q (strs (qul s)) := ⟨fun h => h _ (q4l rfl), fun h z₀ hr => by rw [hr _ _ _ rfl]; exact h⟩
theorem ssingle_c (k : Nat) : Contract Tryz.prog (mkEnv globT []) gtabU (qqo k) ssingleL.pre ssingleL.post := Contract.env (Γ := mkEnv globT [gspellL, scharsL]) (contract_spokentext_single (fun _ => rfl) (fun s hs => by
  simp only [cx_spokentext_single, List.mem_cons, List.not_mem_nil, or_false] at hs
  rcases hs with rfl | rfl
  ·exact Contract.inEnv rfl (gspell_c 0) rfl
  ·exact Contract.inEnv rfl (schars_c 1) rfl) k (by
 rintro ts hl ⟨s, w, y, rfl, hp⟩
 have hfin : ∀ z₀ : TV, z₀ = strs (qul s) → ssingleL.post [.agg [.str s, .bool w, .int y]] z₀ := fun z₀ hz₀ => q4l hz₀
 generalize ssingleL.post [.agg [.str s, .bool w, .int y]] = R at hfin ⊢
 unfold tr_spokentext_single
 have hsl := clus_len hp
 obtain ⟨c, ms, hr, _, _, _, hok⟩ := clus hp
 have h4 := runes_four hp
 unfold qul at hfin
 simp only [Tree.den, E.den, P1.den, P2.den, P3.den, TV.cell, ne_eq, forall_eq, Int.reduceToNat, exists_eq_left', qz, schars_all]
 refine ⟨fun h => hfin _ (by rw [if_pos h]; rfl), fun h => ?_⟩
 rw [if_neg h] at hfin
 refine ⟨schars_pre ⟨hp, by omega⟩, SiI (zbj s), Sim (zbj s), ⟨0, rfl, by omega⟩, ?_⟩
 rintro xs _ ⟨i, rfl, hi⟩
 generalize zbj s = l at *
 have ew : IntKind.wrap .i64 ((i : Int) + 1) = ((i + 1 : Nat) : Int) := by rw [wrap_i64 (by omega) (by omega)]; omega
 simp only [Tree.den, E.den, P1.den, P2.den, P3.den, TV.cell, ne_eq, forall_eq, Int.reduceToNat, exists_eq_left', qz, zaj, List.length_map, ew, Int.toNat_natCast]
 refine ⟨fun hlt => ?_, fun hn => hfin _ ?_⟩
 ·have hlt : i < l.length := by omega
  rw [zam]
  have hgd : l.getD i 0 = l[i] := by rw [List.getD_eq_getElem?_getD, List.getElem?_eq_getElem hlt]; rfl
  have hmem : l.getD i 0 ∈ l := by rw [hgd]; exact List.getElem_mem _
  have ht : l.take (i + 1) = l.take i ++ [l.getD i 0] := by rw [hgd]; exact List.take_succ_eq_append_getElem hlt
  have hb := q38 (f := qud) (a := 15) (l := l.take (i + 1)) fun x _ => (spellC_bd x).1
  rw [List.length_take] at hb
  have hF : (l.take (i + 1)).flatMap qud = (l.take i).flatMap qud ++ qud (l.getD i 0) := by rw [ht, List.flatMap_append, List.flatMap_singleton]
  simp only [gspell_all, zbc, strs_app]
  rw [← List.map_append, List.length_map, ← hF]
  refine ⟨by omega, by omega, gspell_pre (hok _ hmem), by omega, ⟨i + 1, rfl, by omega⟩, ?_⟩
  simp only [Sim, List.getD_cons_zero, zac]; omega
 ·obtain rfl : i = l.length := by omega
  rw [List.take_length])) rfl
def splainL : Law := ⟨fun ts => ∃ (s : By), ts = [.str s] ∧ (s.length ≤ 1000000), fun ts z₀ => ∀ (s : By), ts = [.str s] → z₀ = .bool (qvh s)⟩
theorem splain_pre {s : By} (h : s.length ≤ 1000000) : splainL.pre [.str s] := ⟨s, rfl, h⟩
theorem splain_fin {s : By} {z₀ : TV} (h : z₀ = .bool (qvh s)) : splainL.post [.str s] z₀ := fun s₁ e => by
 simp only [qy] at e; subst e
 exact h
theorem splain_all {s : By} {Q : TV → Prop} : (∀ z₀, splainL.post [.str s] z₀ → Q z₀) ↔ Q (.bool (qvh s)) := ⟨fun h => h _ (splain_fin rfl), fun h z₀ hr => by rw [hr _ rfl]; exact h⟩
def PlI (s : By) (xs : List TV) : Prop := ∃ i : Nat, xs = [.int i] ∧ i ≤ s.length ∧ (s.take i).all (fun c => decide (97 ≤ c ∧ c ≤ 122)) = true
def Plm (s : By) (xs : List TV) : Nat := s.length - (xs.getD 0 (.int 0)).asInt.toNat
theorem splain_c (k : Nat) : Contract Tryz.prog (mkEnv globT []) gtabU (qqx k) splainL.pre splainL.post := Contract.env (Γ := mkEnv globT []) (contract_spokentext_plain (fun _ => rfl) (fun s hs => by
  cases hs) k (by
 rintro ts hl ⟨s, rfl, hp⟩
 have hfin : ∀ z₀ : TV, z₀ = .bool (qvh s) → splainL.post [.str s] z₀ := fun z₀ hz₀ => splain_fin hz₀
 generalize splainL.post [.str s] = R at hfin ⊢
 unfold tr_spokentext_plain
 simp only [Tree.den, E.den, P1.den, P2.den, P3.den, TV.cell, ne_eq, forall_eq, Int.reduceToNat, exists_eq_left', qz]
 refine ⟨PlI s, Plm s, ⟨0, rfl, by omega, rfl⟩, ?_⟩
 rintro xs _ ⟨i, rfl, hi, ha⟩
 have ew : IntKind.wrap .i64 ((i : Int) + 1) = ((i + 1 : Nat) : Int) := by rw [wrap_i64 (by omega) (by omega)]; omega
 simp only [Tree.den, E.den, P1.den, P2.den, P3.den, TV.cell, ne_eq, forall_eq, Int.reduceToNat, exists_eq_left', qz, ew, Int.toNat_natCast]
 refine ⟨fun hlt => ?_, fun hn => hfin _ ?_⟩
 ·have hlt : i < s.length := by omega
  have hgd : s.getD i 0 = s[i] := by rw [List.getD_eq_getElem?_getD, List.getElem?_eq_getElem hlt]; rfl
  have hs : s ≠ [] := fun e => by rw [e] at hlt; simp at hlt
  have hbad : ¬ (97 ≤ s.getD i 0 ∧ s.getD i 0 ≤ 122) → qvh s = false := fun h => by
   unfold qvh
   rw [Bool.and_eq_false_iff]
   refine .inr (List.all_eq_false.2 ⟨_, List.getElem_mem hlt, ?_⟩)
   rw [← hgd]
   simpa using h
  have c1 : ∀ c : UInt8, (97 ≤ c ↔ 97 ≤ c.toNat) ∧ (c ≤ 122 ↔ c.toNat ≤ 122) := fun c => ⟨UInt8.le_iff_toNat_le, UInt8.le_iff_toNat_le⟩
  obtain ⟨c2, c3⟩ := c1 (s.getD i 0)
  refine ⟨by omega, by omega, fun h => hfin _ (by rw [hbad (fun k => by have := c2.1 k.1; omega)]), fun h => ⟨by omega, by omega, fun h2 => hfin _ (by rw [hbad (fun k => by have := c3.1 k.2; omega)]), fun h2 => ⟨⟨i + 1, rfl, by omega, ?_⟩, ?_⟩⟩⟩
  ·rw [List.take_succ_eq_append_getElem hlt, List.all_append, ha, Bool.true_and, ← hgd]
   simp only [List.all_cons, List.all_nil, Bool.and_true, decide_eq_true_eq]
   exact ⟨c2.2 (by omega), c3.2 (by omega)⟩
  ·simp only [Plm, List.getD_cons_zero, zac]; omega
 ·obtain rfl : i = s.length := by omega
  rw [List.take_length] at ha
  unfold qvh
  rw [ha, Bool.and_true]
  cases s <;> rfl)) rfl
def sidxL : Law := ⟨fun ts => ∃ (l : List By) (s : By), ts = [strs l, .str s] ∧ (l.length ≤ 1000000), fun ts z₀ => ∀ (l : List By) (s : By), ts = [strs l, .str s] → z₀ = .int (match l.findIdx? (· == s) with | some i => (i : Int) | none => -1)⟩
theorem sidx_pre {l : List By} {s : By} (h : l.length ≤ 1000000) : sidxL.pre [strs l, .str s] := ⟨l, s, rfl, h⟩
theorem sidx_fin {l : List By} {s : By} {z₀ : TV} (h : z₀ = .int (match l.findIdx? (· == s) with | some i => (i : Int) | none => -1)) : sidxL.post [strs l, .str s] z₀ := fun l₁ s₁ e => by
 simp only [qy, qhv] at e; obtain ⟨rfl, rfl⟩ := e
 exact h
theorem sidx_all {l : List By} {s : By} {Q : TV → Prop} : (∀ z₀, sidxL.post [strs l, .str s] z₀ → Q z₀) ↔ Q (.int (match l.findIdx? (· == s) with | some i => (i : Int) | none => -1)) := ⟨fun h => h _ (sidx_fin rfl), fun h z₀ hr => by rw [hr _ _ rfl]; exact h⟩
def IxI (l : List By) (s : By) (xs : List TV) : Prop := ∃ i : Nat, xs = [.int i] ∧ i ≤ l.length ∧ ∀ j, j < i → sg l j ≠ s
def Ixm (l : List By) (xs : List TV) : Nat := l.length - (xs.getD 0 (.int 0)).asInt.toNat
theorem sidx_c (k : Nat) : Contract Tryz.prog (mkEnv globT []) gtabU (qqa k) sidxL.pre sidxL.post := Contract.env (Γ := mkEnv globT []) (qtm (fun _ => rfl) (fun s hs => by
  cases hs) k (by
 rintro ts hl ⟨l, s, rfl, hp⟩
 have hfin : ∀ z₀ : TV, z₀ = .int (match l.findIdx? (· == s) with | some i => (i : Int) | none => -1) → sidxL.post [strs l, .str s] z₀ := fun z₀ hz₀ => sidx_fin hz₀
 generalize sidxL.post [strs l, .str s] = R at hfin ⊢
 unfold tr_slices_Indexstringstring
 simp only [Tree.den, E.den, P1.den, P2.den, P3.den, TV.cell, ne_eq, forall_eq, Int.reduceToNat, exists_eq_left', qz]
 refine ⟨IxI l s, Ixm l, ⟨0, rfl, by omega, fun j hj => by omega⟩, ?_⟩
 rintro xs _ ⟨i, rfl, hi, ha⟩
 have ew : IntKind.wrap .i64 ((i : Int) + 1) = ((i + 1 : Nat) : Int) := by rw [wrap_i64 (by omega) (by omega)]; omega
 simp only [Tree.den, E.den, P1.den, P2.den, P3.den, TV.cell, ne_eq, forall_eq, Int.reduceToNat, exists_eq_left', qz, ew, Int.toNat_natCast, zbc, List.length_map]
 refine ⟨fun hlt => ?_, fun hn => hfin _ ?_⟩
 ·have hlt : i < l.length := by omega
  rw [sgetD hlt]
  refine ⟨by omega, by omega, fun h => hfin _ ?_, fun h => ⟨⟨i + 1, rfl, by omega, fun j hj => ?_⟩, ?_⟩⟩
  ·rw [find_at hlt h.symm ha]
  ·rcases Nat.lt_succ_iff_lt_or_eq.1 hj with hj | rfl
   ·exact ha j hj
   ·exact fun e => h e.symm
  ·simp only [Ixm, List.getD_cons_zero, zac]; omega
 ·obtain rfl : i = l.length := by omega
  rw [zv9 ha])) rfl
def chrT (l : List By) : TV := .agg [.int (chrP l).1, .int (chrP l).2]
def scharL : Law := ⟨fun ts => ∃ (l : List By), ts = [strs l] ∧ (l.length ≤ 1000000), fun ts z₀ => ∀ (l : List By), ts = [strs l] → z₀ = chrT l⟩
theorem schar_pre {l : List By} (h : l.length ≤ 1000000) : scharL.pre [strs l] := ⟨l, rfl, h⟩
theorem schar_fin {l : List By} {z₀ : TV} (h : z₀ = chrT l) : scharL.post [strs l] z₀ := fun l₁ e => by
 simp only [qy, qhv] at e; subst e
 exact h
theorem schar_all {l : List By} {Q : TV → Prop} : (∀ z₀, scharL.post [strs l] z₀ → Q z₀) ↔ Q (chrT l) := ⟨fun h => h _ (schar_fin rfl), fun h z₀ hr => by rw [hr _ rfl]; exact h⟩
theorem schar_c (k : Nat) : Contract Tryz.prog (mkEnv globT []) gtabU (qqe k) scharL.pre scharL.post := Contract.env (Γ := mkEnv globT [gunsL]) (qt4 (fun _ => rfl) (fun s hs => by
  simp only [cx_spokentext_character, List.mem_cons, List.not_mem_nil, or_false] at hs
  rcases hs with rfl
  ·exact Contract.inEnv rfl (guns_c 0) rfl) k (by
 rintro ts hl ⟨l, rfl, hp⟩
 have hfin : ∀ z₀ : TV, z₀ = chrT l → scharL.post [strs l] z₀ := fun z₀ hz₀ => schar_fin hz₀
 generalize scharL.post [strs l] = R at hfin ⊢
 unfold tr_spokentext_character
 simp only [Tree.den, E.den, P1.den, P2.den, P3.den, TV.cell, ne_eq, forall_eq, Int.reduceToNat, exists_eq_left', qz, guns_all, zbc, List.length_map]
 have key : ∀ l : List By, (∀ z₀ : TV, z₀ = chrT l → R z₀) → (l = [] ∨ (sg l 0 ≠ cwd 5)) → (¬ ((unsT l).cells.getD 2 (TV.int 0)).asInt = 0 → R (TV.agg [TV.int 0, TV.int 0])) ∧ (((unsT l).cells.getD 2 (TV.int 0)).asInt = 0 → R (TV.agg [(unsT l).cells.getD 0 (TV.int 0), (unsT l).cells.getD 1 (TV.int 0)])) := by
  intro l hfin h5
  have fl : chrP l = (0, 0) → unsT l = .agg [.int 0, .int 0, .int 17] → (¬ ((unsT l).cells.getD 2 (TV.int 0)).asInt = 0 → R (TV.agg [TV.int 0, TV.int 0])) ∧ (((unsT l).cells.getD 2 (TV.int 0)).asInt = 0 → R (TV.agg [(unsT l).cells.getD 0 (TV.int 0), (unsT l).cells.getD 1 (TV.int 0)])) := fun e1 e2 => by
   rw [e2]
   exact ⟨fun _ => hfin _ (by unfold chrT; rw [e1]; rfl), fun h => absurd h (by decide)⟩
  have tr : ∀ (n : Int) (k : Nat), chrP l = (n, k) → unsT l = .agg [.int n, .int k, .int 0] → (¬ ((unsT l).cells.getD 2 (TV.int 0)).asInt = 0 → R (TV.agg [TV.int 0, TV.int 0])) ∧ (((unsT l).cells.getD 2 (TV.int 0)).asInt = 0 → R (TV.agg [(unsT l).cells.getD 0 (TV.int 0), (unsT l).cells.getD 1 (TV.int 0)])) := fun n k e1 e2 => by
   rw [e2]
   exact ⟨fun h => absurd rfl h, fun _ => hfin _ (by unfold chrT; rw [e1]; rfl)⟩
  match l, h5 with
  | [], _ => exact fl rfl rfl
  | w :: ws, h5 =>
   have h5 : w ≠ cwd 5 := h5.elim (fun h => by cases h) id
   cases hs : nameL.findIdx? (· == w) with
   | some i => exact tr _ 1 (by unfold chrP; dsimp only; rw [if_neg h5, hs]) (by unfold unsT; dsimp only; rw [hs]; rfl)
   | none =>
    by_cases h0 : w = cwd 0
    ·cases hz : qvc ws with
     | none => exact fl (by unfold chrP; dsimp only; rw [if_neg h5, hs]; dsimp only; rw [if_pos h0, hz]) (by unfold unsT; dsimp only; rw [hs]; dsimp only; rw [if_pos h0, hz])
     | some p =>
      obtain ⟨n, k⟩ := p
      by_cases hc : ((0 ≤ n ∧ n ≤ 55295) ∨ (57344 ≤ n ∧ n ≤ 1114111)) ∧ sgnI n = none
      ·exact tr n (1 + k) (by unfold chrP; dsimp only; rw [if_neg h5, hs]; dsimp only; rw [if_pos h0, hz]; dsimp only; rw [if_pos hc]) (by unfold unsT; dsimp only; rw [hs]; dsimp only; rw [if_pos h0, hz]; dsimp only; rw [if_pos hc])
      ·exact fl (by unfold chrP; dsimp only; rw [if_neg h5, hs]; dsimp only; rw [if_pos h0, hz]; dsimp only; rw [if_neg hc]) (by unfold unsT; dsimp only; rw [hs]; dsimp only; rw [if_pos h0, hz]; dsimp only; rw [if_neg hc])
    ·exact fl (by unfold chrP; dsimp only; rw [if_neg h5, hs]; dsimp only; rw [if_neg h0]) (by unfold unsT; dsimp only; rw [hs]; dsimp only; rw [if_neg h0])
 have e5 : [115, 112, 97, 99, 101] = cwd 5 := rfl
 rw [e5]
 refine ⟨fun h => ⟨h, ?_⟩, fun h => ⟨guns_pre hp, key l hfin (.inl (List.length_eq_zero_iff.1 (by omega)))⟩⟩
 rw [sgetD (by omega)]
 refine ⟨fun h5 => hfin _ ?_, fun h5 => ⟨guns_pre hp, key l hfin (.inr h5)⟩⟩
 cases l with
 | nil => simp at h
 | cons w ws =>
  have h5 : w = cwd 5 := h5
  unfold chrT chrP
  dsimp only
  rw [if_pos h5]
  rfl)) rfl
end Go.Proofs.YtlhagkbhojmjpaaGreatDoor
