/- Written by this repo's own program out of its texts. -/
import Derived.Test.YtlhagkbhojmjpaaGreatDoorPHd
set_option linter.unusedSimpArgs false
set_option linter.unusedVariables false
set_option linter.unusedSectionVars false
namespace Go.Proofs.YtlhagkbhojmjpaaGreatDoor
def strss (ls : List (List By)) : TV := .list (ls.map strs)
theorem strss_eq {a b : List (List By)} : strss a = strss b ↔ a = b := by
 constructor
 ·intro h
  unfold strss at h
  simp only [TV.list.injEq] at h
  have := congrArg (List.map fun t : TV => t.asList.map TV.asStr) h
  simpa [List.map_map, Function.comp_def, strs, TV.asList, TV.asStr] using this
 ·intro h; rw [h]
section
open Go.Shelf Go.RowKit
attribute [local go_sem] Oper.semAt_some
def sconcatL : Law := ⟨fun ts => ∃ (ls : List (List By)), ts = [strss ls] ∧ (ls ≠ [] ∧ (∀ l ∈ ls, l ≠ []) ∧ ls.length ≤ 100 ∧ ls.flatten.length ≤ 1000000), fun ts z₀ => ∀ (ls : List (List By)), ts = [strss ls] → z₀ = strs ls.flatten⟩
theorem sconcat_pre {ls : List (List By)} (h : ls ≠ [] ∧ (∀ l ∈ ls, l ≠ []) ∧ ls.length ≤ 100 ∧ ls.flatten.length ≤ 1000000) : sconcatL.pre [strss ls] := ⟨ls, rfl, h⟩
theorem q4k {ls : List (List By)} {z₀ : TV} (h : z₀ = strs ls.flatten) : sconcatL.post [strss ls] z₀ := fun ls₁ e => by
 simp only [qy, strss_eq] at e; subst e
 exact h
theorem sconcat_all {ls : List (List By)} {Q : TV → Prop} : (∀ z₀, sconcatL.post [strss ls] z₀ → Q z₀) ↔ Q (strs ls.flatten) := ⟨fun h => h _ (q4k rfl), fun h z₀ hr => by rw [hr _ rfl]; exact h⟩
theorem sconcat_c (k : Nat) : Contract Tryz.prog (mkEnv globT []) gtabU (qp8 k) sconcatL.pre sconcatL.post :=
 Contract.leafS ⟨_, Tryz.f119.body.getD .skip, Tryz.func119, by kernel_rfl, by kernel_rfl⟩ fun w ts vs hg ha hp => by
  obtain ⟨ls, rfl, hne, hl0, hl1, hl2⟩ := hp
  obtain ⟨v0, vs0, e0, h0, ha⟩ := zcl ha
  obtain ⟨_, e2⟩ := zgh ha
  subst e2
  have ev : vs = #[v0] := by apply Array.toList_inj.1; rw [e0]
  subst ev
  obtain ⟨ct, hct, h0⟩ := h0
  have hct : CT.slice false [CT.slice false [CT.str]] = ct := by simpa using hct
  have hlen : (strss ls).asList.length = ls.length := by unfold strss; rw [zaa, List.length_map]
  refine ⟨ls.flatten, q4k rfl, ?_⟩
  generalize hT : strss ls = T at h0
  cases h0 with
  | int => cases hct
  | bool => cases hct
  | str => cases hct
  | map => cases hct
  | empty ag cs _ a cap he _ _ =>
   subst hT
   rw [he] at hlen
   exact absurd (List.length_eq_zero_iff.1 hlen.symm) hne
  | slice ag cs _ g off cap cur el fr vals hM hcap hmax hc hr =>
   subst hT
   injection hct with q1 q2
   subst q1 q2
   rw [hlen]
   refine concat_in w g off cap ls (fun i => vals i 0) hl1 hl2 (Array.getElem?_eq_some_iff.1 (show w.heap[g]? = _ from hM)).1 (fun i hi => ?_) (fun i l hl => ?_)
   ·have h1 := hc i (by omega) 0 (by simp)
    simp only [List.length_cons, List.length_nil, Nat.zero_add, Nat.mul_one, Nat.add_zero] at h1
    simp [World.cell?, show w.heap[g]? = _ from hM, h1]
   ·have hi := (List.getElem?_eq_some_iff.1 hl).1
    have h2 := hr i (by omega) 0 (by simp)
    have e3 : (strss ls).asList[i]'(by omega) = strs l := by
     unfold strss
     simp only [zaa, List.getElem_map]
     rw [(List.getElem?_eq_some_iff.1 hl).2]
    have h4 : RepT (full w) (.slice false [.str]) (zbk false ((strss ls).asList[i]'(by omega)) 0) (vals i 0) := h2
    rw [e3] at h4
    exact strRow_of h4 (hl0 l (List.mem_of_getElem? hl))
def setF (L : List By) (s : List UInt8) : Option Value := if L.contains s then some (.bool true) else none
theorem setF_step (L : List By) (x s : By) : setF (L ++ [x]) s = if s = x then some (.bool true) else setF L s := by
 unfold setF
 by_cases h : s = x
 ·rw [if_pos h, if_pos (by simp [h])]
 ·rw [if_neg h]
  congr 1
  simp [h]
def setT (L : List By) : TV := .list (L.map fun w => .agg [.str w, .bool true])
theorem mval_set (s : By) : ∀ L : List By, mval (setT L).asList s = if L.contains s then some (.bool true) else none
 | [] => rfl
 | x :: L => by
  have ih := mval_set s L
  unfold setT at ih ⊢
  rw [zaa] at ih ⊢
  unfold mval at ih ⊢
  rw [List.map_cons, List.find?_cons]
  show Option.map (fun x => x.cell 1) (match x == s with | true => some (TV.agg [.str x, .bool true]) | false => _) = _
  cases hx : x == s with
  | true =>
   have : x = s := by simpa using hx
   subst this
   simp [TV.cell, TV.cells]
  | false =>
   have : ¬ x = s := by simpa using hx
   have h2 : ¬ s = x := fun e => this e.symm
   simp only []
   rw [ih]
   simp [h2]
theorem setF_rep (L : List By) (s : By) : setF L s = (mval (setT L).asList s).map (mcv true) := by
 rw [mval_set]
 unfold setF
 split
 ·rfl
 ·rfl
theorem tk_step {L : List By} {i : Nat} (h : i < L.length) : L.take (i + 1) = L.take i ++ [sg L i] := stake h
set_option maxRecDepth 100000 in
set_option maxHeartbeats 4000000 in
theorem q4j (w : World) (hG : GlobOk (mkEnv globT []) gtabU w) : Calls Tryz.prog 88 #[] w fun e w' => ∃ r, e = .returned (.map (some r)) ∧ w.heap.size ≤ r ∧ MapHas w' r (setF vocabL) ∧ Below w.heap.size w w' := by
 refine (callsIn_wide (n := 2)).1 ?_
 refine callsIn_of_wp Tryz.func88 rfl trivial ?_ rfl
 simp only [Tryz.ntmps88, List.size_toArray, List.length_cons, List.length_nil, Nat.reduceAdd, Nat.reduceSub, Array.replicate_succ, Array.replicate_zero, List.push_toArray, List.append_toArray, List.nil_append, List.cons_append]
 have hmm := @run_makeMap Tryz.prog
 have hB0 : Below w.heap.size w (w.alloc (.map #[] 0)) := (Below.refl _ w).alloc (Nat.le_refl _) _
 have hM0 := MapHas.new w
 obtain ⟨W0, hW0⟩ : ∃ W0, W0 = w.alloc (.map #[] 0) := ⟨_, rfl⟩
 have hs0 : W0.heap.size = w.heap.size + 1 := by rw [hW0, World.size_alloc]
 gi_wp2_with fail
 rw [← hW0] at hB0 hM0 ⊢
 clear hW0
 refine ⟨trivial, ?_⟩
 refine (callsIn_wide.2 (voc_call (hG.below hB0))).mono ?_
 rintro e w1 ⟨g, cap, rfl, hc1, hc2, hg0, hg1, hcell, hB1⟩
 have hM1 : MapHas w1 w.heap.size (fun _ => none) := hM0.kept (hB1.block _ (by omega))
 have hB2 : Below w.heap.size w w1 := hB0.trans (hB1.mono (by omega))
 gi_wp2_with fail
 gi_loopw [7] (fun p wr => ∃ i : Nat, i ≤ 32 ∧ p = .int .i64 i ∧ MapHas wr w.heap.size (setF (vocabL.take i)) ∧ Below w.heap.size w wr ∧ ∀ j, j < 32 → wr.cell? ⟨g, j, none⟩ = some (strV (vw j))) (fun p _ => 32 - (intOf p).toNat)
 case atStart => exact ⟨0, by omega, rfl, hM1.cong (fun s => rfl), hB2, hcell⟩
 case round =>
  obtain ⟨i, hi, rfl, hM, hB, hcl⟩ := hrel
  by_cases hlt : i < 32
  ·have cr := hcl i (by omega)
   have stp : ∀ s, setF (vocabL.take (i + 1)) s = if s = vw i then some (.bool true) else setF (vocabL.take i) s := fun s => by
    rw [tk_step (L := vocabL) hlt, setF_step]; rfl
   gi_wp2_with (refine wpListIn_ins rfl rfl _ _ _ _ rfl rfl rfl rfl Tryz.underlying155 Tryz.underlying9 (by assumption) (by assumption) (Nat.le_refl _) (by first | assumption | exact fun _ _ => rfl) ?_; intro w2 hM2 hB2 hk2)
   go_roundw
   case rel =>
    refine ⟨i + 1, by omega, by go_num, hM2.cong (fun s => ?_), hB2, fun j hj => ?_⟩
    ·rw [stp s]; rfl
    ·rw [← hcl j hj]
     exact World.cell?_of_block (hk2 _ (show g ≠ _ by omega))
   case measure => simp [intOf]; omega
  ·obtain rfl : i = 32 := by omega
   gi_wp2
   go_ret
   exact ⟨_, rfl, Nat.le_refl _, hM.cong (fun s => rfl), hB⟩
def svocL : Law := ⟨fun ts => ts = [], fun ts z₀ => ts = [] → z₀ = setT vocabL⟩
theorem svoc_pre : svocL.pre [] := rfl
theorem svoc_fin {z₀ : TV} (h : z₀ = setT vocabL) : svocL.post [] z₀ := fun _ => h
theorem svoc_all {Q : TV → Prop} : (∀ z₀, svocL.post [] z₀ → Q z₀) ↔ Q (setT vocabL) := ⟨fun h => h _ fun _ => rfl, fun h z₀ hr => by rw [hr rfl]; exact h⟩
theorem svoc_c (k : Nat) : Contract Tryz.prog (mkEnv globT []) gtabU (qrd k) svocL.pre svocL.post :=
 Contract.leafM ⟨_, Tryz.f88.body.getD .skip, Tryz.func88, by kernel_rfl, by kernel_rfl⟩ fun w ts vs hg ha hp => by
  obtain rfl : ts = [] := hp
  have hv : vs.toList = [] := List.eq_nil_of_length_eq_zero ha.2.1.symm
  obtain rfl : vs = #[] := by rcases vs with ⟨l⟩; exact congrArg List.toArray hv
  exact ⟨setT vocabL, setF vocabL, svoc_fin rfl, setF_rep _, q4j w hg⟩
def moreL : List By := ctrlL ++ nameL
theorem more_len : moreL.length = 71 := by decide
set_option maxRecDepth 100000 in
set_option maxHeartbeats 4000000 in
theorem reserved_in (w : World) (hG : GlobOk (mkEnv globT []) gtabU w) : Calls Tryz.prog 95 #[] w fun e w' => ∃ r, e = .returned (.map (some r)) ∧ w.heap.size ≤ r ∧ MapHas w' r (setF (vocabL ++ moreL)) ∧ Below w.heap.size w w' := by
 refine (callsIn_wide (n := 4)).1 ?_
 refine callsIn_of_wp Tryz.func95 rfl trivial ?_ rfl
 simp only [Tryz.ntmps95, List.size_toArray, List.length_cons, List.length_nil, Nat.reduceAdd, Nat.reduceSub, Array.replicate_succ, Array.replicate_zero, List.push_toArray, List.append_toArray, List.nil_append, List.cons_append]
 gi_wp2_with (refine ⟨trivial, ?_⟩; gi_at_call 88; refine (callsIn_wide.2 (q4j w hG)).mono ?_; rintro e w1 ⟨r, rfl, hr1, hM1, hB1⟩)
 refine ⟨trivial, ?_⟩
 have hF := fields_call (hG.below hB1) ctrlS (by decide) ctrl_fields.2 (by rw [ctrl_fields.1]; decide)
 rw [ctrl_fields.1] at hF
 refine (callsIn_wide.2 hF).mono ?_
 rintro e w2 ⟨g1, rfl, hg1, hg2, hc2, hB2⟩
 have hB2' : Below w.heap.size w w2 := hB1.trans (hB2.mono hB1.size)
 gi_wp2_with fail
 refine ⟨trivial, ?_⟩
 refine (callsIn_wide.2 (names_in w2 (hG.below hB2'))).mono ?_
 rintro e w3 ⟨g2, rfl, hg3, hg4, hc3, hB3⟩
 have hB3' : Below w.heap.size w w3 := hB2'.trans (hB3.mono hB2'.size)
 gi_wp2_with fail
 have hk := HasC.new w3 #[.slice (some ⟨g1, 0, none⟩) ctrlL.length ctrlL.length, .slice (some ⟨g2, 0, none⟩) 32 32] 109
 have hB4 : Below w.heap.size w (w3.alloc (.cells #[.slice (some ⟨g1, 0, none⟩) ctrlL.length ctrlL.length, .slice (some ⟨g2, 0, none⟩) 32 32] 109)) := hB3'.alloc hB3'.size _
 have r1 : StrRow (w3.alloc (.cells #[.slice (some ⟨g1, 0, none⟩) ctrlL.length ctrlL.length, .slice (some ⟨g2, 0, none⟩) 32 32] 109)) (.slice (some ⟨g1, 0, none⟩) ctrlL.length ctrlL.length) ctrlL := by
  have hs3 := hB3.size
  refine ⟨g1, 0, _, rfl, by simp; omega, fun j x hx => ?_⟩
  rw [Nat.zero_add]
  exact (Lib.cell?_alloc_some _ ((hB3.cell (p := ⟨g1, j, none⟩) hg2).trans (hc2 j x hx)))
 have r2 : StrRow (w3.alloc (.cells #[.slice (some ⟨g1, 0, none⟩) ctrlL.length ctrlL.length, .slice (some ⟨g2, 0, none⟩) 32 32] 109)) (.slice (some ⟨g2, 0, none⟩) 32 32) nameL := by
  refine ⟨g2, 0, 32, rfl, by simp; omega, fun j x hx => ?_⟩
  rw [Nat.zero_add]
  exact (Lib.cell?_alloc_some _ (hc3 j x hx))
 have hMr : MapHas (w3.alloc (.cells #[.slice (some ⟨g1, 0, none⟩) ctrlL.length ctrlL.length, .slice (some ⟨g2, 0, none⟩) 32 32] 109)) r (setF vocabL) := by
  have hlt := hM1.lt
  have k2 := hM1.kept (hB2.block r hlt)
  have k3 := k2.kept (hB3.block r k2.lt)
  exact k3.kept (Below.heap_alloc _ _ _ (by have := k3.lt; omega))
 generalize w3.alloc (.cells #[.slice (some ⟨g1, 0, none⟩) ctrlL.length ctrlL.length, .slice (some ⟨g2, 0, none⟩) 32 32] 109) = W4 at hk hB4 r1 r2 hMr ⊢
 have hcc := concat_in W4 w3.heap.size 0 2 [ctrlL, nameL] (fun i => if i = 0 then .slice (some ⟨g1, 0, none⟩) ctrlL.length ctrlL.length else .slice (some ⟨g2, 0, none⟩) 32 32) (by decide) (by decide) hk.lt (fun i hi => by
   match i, hi with
   | 0, _ => exact hk.cell 0 rfl
   | 1, _ => exact hk.cell 1 rfl) (fun i l hl => by
   match i, hl with
   | 0, hl => cases hl; exact r1
   | 1, hl => cases hl; exact r2)
 rw [show [ctrlL, nameL].flatten = moreL by simp [moreL]] at hcc
 rw [more_len] at hcc
 refine ⟨trivial, ?_⟩
 refine (callsIn_wide.2 hcc).mono ?_
 rintro e w5 ⟨v, rfl, ho, hB5⟩
 have hM5 : MapHas w5 r (setF vocabL) := hMr.kept (hB5.block r hMr.lt)
 have hB5' : Below w.heap.size w w5 := hB4.trans (hB5.mono hB4.size)
 obtain ⟨g, cap, rfl⟩ := ownsRow_succ ho
 have hgb := ho.lt g rfl
 have hcl : ∀ j, j < 71 → w5.cell? ⟨g, j, none⟩ = some (strV (sg moreL j)) := fun j hj => by
  have := ho.cells (g := g) rfl j (strV (sg moreL j)) (strC_get (by
   unfold sg
   rw [List.getD_eq_getElem?_getD, List.getElem?_eq_getElem (show j < moreL.length by rw [more_len]; exact hj)]; rfl))
  rw [Addr.add_lit, Nat.zero_add] at this
  exact this
 have hrW4 := hMr.lt
 clear hcc r1 r2 hk hc2 hc3 hF
 gi_wp2_with fail
 gi_loopw [10] (fun p wr => ∃ i : Nat, i ≤ 71 ∧ p = .int .i64 i ∧ MapHas wr r (setF (vocabL ++ moreL.take i)) ∧ Below w.heap.size w wr ∧ ∀ j, j < 71 → wr.cell? ⟨g, j, none⟩ = some (strV (sg moreL j))) (fun p _ => 71 - (intOf p).toNat)
 case atStart => exact ⟨0, by omega, rfl, hM5.cong (fun s => by simp), hB5', hcl⟩
 case round =>
  obtain ⟨i, hi, rfl, hM, hB, hcl'⟩ := hrel
  by_cases hlt : i < 71
  ·have cr := hcl' i (by omega)
   have stp : ∀ s, setF (vocabL ++ moreL.take (i + 1)) s = if s = sg moreL i then some (.bool true) else setF (vocabL ++ moreL.take i) s := fun s => by
    rw [tk_step (L := moreL) (by rw [more_len]; exact hlt), ← List.append_assoc, setF_step]
   gi_wp2_with (refine wpListIn_ins rfl rfl _ _ _ _ rfl rfl rfl rfl Tryz.underlying155 Tryz.underlying9 (by assumption) (by assumption) hr1 (by first | assumption | exact fun _ _ => rfl) ?_; intro w2 hM2 hB2 hk2)
   go_roundw
   case rel =>
    refine ⟨i + 1, by omega, by go_num, hM2.cong (fun s => ?_), hB2, fun j hj => ?_⟩
    ·rw [stp s]; rfl
    ·rw [← hcl' j hj]
     exact World.cell?_of_block (hk2 _ (show g ≠ _ by omega))
   case measure => simp [intOf]; omega
  ·obtain rfl : i = 71 := by omega
   gi_wp2
   go_ret
   exact ⟨_, rfl, hr1, hM.cong (fun s => by rw [List.take_of_length_le (by rw [more_len]; exact Nat.le_refl _)]), hB⟩
theorem resB_more (w : By) : resB w = (vocabL ++ moreL).contains w := by
 unfold resB moreL
 simp [Bool.or_assoc]
def resT : TV := setT (vocabL ++ moreL)
theorem mget_res (w : By) : (mtv true ((mval resT.asList w).getD (.int 0))) = .bool (resB w) := by
 rw [resB_more]
 unfold resT
 rw [mval_set]
 cases (vocabL ++ moreL).contains w <;> rfl
theorem mget_voc (w : By) : (mtv true ((mval (setT vocabL).asList w).getD (.int 0))) = .bool (isNum w) := by
 unfold isNum
 rw [mval_set]
 cases vocabL.contains w <;> rfl
def srsvL : Law := ⟨fun ts => ts = [], fun ts z₀ => ts = [] → z₀ = resT⟩
theorem srsv_pre : srsvL.pre [] := rfl
theorem srsv_fin {z₀ : TV} (h : z₀ = resT) : srsvL.post [] z₀ := fun _ => h
theorem srsv_all {Q : TV → Prop} : (∀ z₀, srsvL.post [] z₀ → Q z₀) ↔ Q (resT) := ⟨fun h => h _ fun _ => rfl, fun h z₀ hr => by rw [hr rfl]; exact h⟩
theorem srsv_c (k : Nat) : Contract Tryz.prog (mkEnv globT []) gtabU (qp6 k) srsvL.pre srsvL.post :=
 Contract.leafM ⟨_, Tryz.f95.body.getD .skip, Tryz.func95, by kernel_rfl, by kernel_rfl⟩ fun w ts vs hg ha hp => by
  obtain rfl : ts = [] := hp
  have hv : vs.toList = [] := List.eq_nil_of_length_eq_zero ha.2.1.symm
  obtain rfl : vs = #[] := by rcases vs with ⟨l⟩; exact congrArg List.toArray hv
  exact ⟨resT, setF (vocabL ++ moreL), srsv_fin rfl, setF_rep _, reserved_in w hg⟩
end
end Go.Proofs.YtlhagkbhojmjpaaGreatDoor
