/- Written by this repo's own program out of its texts. -/
import Derived.Test.YtlhagkbhojmjpaaGreatDoorPNc
import Derived.RangeFuncNested
import Derived.RangeFuncBound
import Derived.Shelf.Abstract
import Derived.Shelf.RegionOpen
import Derived.WalkKit
import Derived.OwnWalkIn
import Derived.TacticsInMore
import Derived.LoopNIn
import Derived.LoopIn
import Derived.Maps.StringElems
import Derived.Stop.RegionWithIn
set_option linter.unusedSimpArgs false
set_option linter.unusedVariables false
set_option linter.unusedSectionVars false
namespace Go.Proofs.YtlhagkbhojmjpaaGreatDoor
section
open Go.RowKit Go.Shelf
theorem below_full {w W : World} (h : Below w.heap.size w W) : Mem.le (full w) (full W) := fun g o hg => (h.block g (Array.getElem?_eq_some_iff.1 hg).1).trans hg
theorem GlobOk.below {Γ : CEnv} {gt : GT} {w W : World} (h : GlobOk Γ gt w) (hb : Below w.heap.size w W) : GlobOk Γ gt W := fun g ag cs hm => ⟨(h g ag cs hm).1.mono (below_full hb), (h g ag cs hm).2⟩
theorem wpListIn_ins {F : Fence} {n : Nat} {P : Program} {w w0 : World} {ops : Array Oper} {rest : List Oper} {o : Oper} {a : Act} {Q : Exit → Act → World → Prop} (hg : o.guard = none) (hd : o.dst = none) (m k v : Operand) (t : TypeId) (hop : o.op = Op.mapUpdate t m k v)
  {B r : Nat} {s : List UInt8} {val : Value} {f : List UInt8 → Option Value} {kt et : TypeId} (hm : a.eval m = .map (some r)) (hk : a.eval k = strV s) (hv : a.eval v = val) (ht : P.underlying t = some (.map kt et)) (hkt : P.underlying kt = some .string) (hb : MapHas w r f)
  (hB : Below B w0 w) (hr : B ≤ r) {wx : World} (hK : ∀ k, k ≠ r → w.heap[k]? = wx.heap[k]?)
  (h : ∀ w', MapHas w' r (fun t => if t = s then some val else f t) → Below B w0 w' → (∀ k, k ≠ r → w'.heap[k]? = wx.heap[k]?) → wpListIn F n P ops Q rest a w') : wpListIn F n P ops Q (o :: rest) a w := by
 refine wpListIn_plain hg fun K hK' => ?_
 obtain ⟨ob, hrun, hmap, _⟩ := run_insert (P := P) ht hkt hb s val
 have hlt : r < w.heap.size := hb.lt
 unfold Oper.wpIn
 refine ⟨?_, ?_⟩
 ·simp [Oper.about, hop, resolve, Target.leads, Sem.run_pure]
 ·rw [Oper.semAt_plain F _ _ (by rw [hop]; intro c hc'; cases hc')]
  simp [execOp, hop, hm, hk, hv, hrun, Result.andThen]
  have e : a.put o.dst undef = a := by rw [hd]; rfl
  have key := h { w with heap := w.heap.setIfInBounds r ob } hmap (hB.trans ⟨rfl, rfl, rfl, by simp, fun k hk => by simp [Array.getElem?_setIfInBounds]; omega⟩) (fun k hk => by rw [← hK k hk]; simp [Array.getElem?_setIfInBounds]; intro e; exact absurd e.symm hk)
  show K (a.put o.dst undef) _
  rw [e]
  exact hK' _ _ key
theorem voc_call {w : World} (hg : GlobOk (mkEnv globT []) gtabU w) : Calls Tryz.prog 113 #[] w fun e w' => ∃ g cap, e = .returned (.slice (some ⟨g, 0, none⟩) 32 cap) ∧ 32 ≤ cap ∧ cap ≤ maxLen ∧ w.heap.size ≤ g ∧ g < w'.heap.size ∧ (∀ i, i < 32 → w'.cell? ⟨g, i, none⟩ = some (strV (vw i))) ∧ Below w.heap.size w w' := by
 refine ((nvoc_c 0).calls w [] #[] hg ⟨rfl, rfl, fun i x t v h => by simp [qqf, sg_nusVocabulary] at h⟩ nvoc_pre).mono ?_
 rintro e w' ⟨r, v, G', rfl, hp, hb, _, hr⟩
 obtain rfl : r = strs vocabL := hp rfl
 have ho := ResRep.strs (l := vocabL) hr
 rcases ho.2 with ⟨_, h0⟩ | ⟨g, cap, cur, rfl, h1, h2, h3, h4, h5, h6⟩
 ·cases h0
 ·refine ⟨g, cap, rfl, by simpa [voc_len] using h3, h4, h1, (Array.getElem?_eq_some_iff.1 h2).1, fun i hi => ?_, hb⟩
  have := ho.cells (g := g) rfl i (strV (vw i)) (strC_get (by
   unfold vw
   rw [List.getD_eq_getElem?_getD, List.getElem?_eq_getElem (show i < vocabL.length from hi)]; rfl))
  rw [Addr.add_lit, Nat.zero_add] at this
  exact this
def valF (i : Nat) (s : List UInt8) : Option Value := ((vocabL.take i).findIdx? (· == s)).map fun j => .int .i64 (if (20 : Nat) < j then 10 * ((j : Int) - 18) else j)
theorem voc_fresh : ∀ i : Fin 32, (vocabL.take i.val).findIdx? (· == vw i.val) = none ∧ vocabL.take (i.val + 1) = vocabL.take i.val ++ [vw i.val] ∧ (vocabL.take i.val).length = i.val := by decide +kernel
theorem valF_step {i : Nat} (hi : i < 28) (s : List UInt8) : valF (i + 1) s = if s = vw i then some (.int .i64 (if (20 : Nat) < i then 10 * ((i : Int) - 18) else i)) else valF i s := by
 obtain ⟨h1, h2, h3⟩ := voc_fresh ⟨i, by omega⟩
 simp only at h1 h2 h3
 unfold valF
 rw [h2, List.findIdx?_append]
 by_cases h : s = vw i
 ·subst h
  rw [if_pos rfl, h1]
  simp [h3]
 ·rw [if_neg h]
  have e : ([vw i].findIdx? (· == s)) = none := by
   have h' : ¬ vw i = s := fun e => h e.symm
   simp [h']
  rw [e]
  simp
set_option maxRecDepth 100000 in
set_option maxHeartbeats 4000000 in
theorem vals_in (w : World) (hG : GlobOk (mkEnv globT []) gtabU w) : Calls Tryz.prog 181 #[] w fun e w' => ∃ r, e = .returned (.map (some r)) ∧ w.heap.size ≤ r ∧ MapHas w' r (valF 28) ∧ Below w.heap.size w w' := by
 refine (callsIn_wide (n := 2)).1 ?_
 refine callsIn_of_wp Tryz.func181 rfl trivial ?_ rfl
 simp only [Tryz.ntmps181, List.size_toArray, List.length_cons, List.length_nil, Nat.reduceAdd, Nat.reduceSub, Array.replicate_succ, Array.replicate_zero, List.push_toArray, List.append_toArray, List.nil_append, List.cons_append]
 have hmm := @run_makeMap Tryz.prog
 have hB0 : Below w.heap.size w (w.alloc (.map #[] 0)) := (Below.refl _ w).alloc (Nat.le_refl _) _
 have hM0 := MapHas.new w
 obtain ⟨W0, hW0⟩ : ∃ W0, W0 = w.alloc (.map #[] 0) := ⟨_, rfl⟩
 have hs0 : W0.heap.size = w.heap.size + 1 := by rw [hW0, World.size_alloc]
 gi_wp2_with fail
 rw [← hW0] at hB0 hM0 ⊢
 clear hW0
 refine ⟨trivial, ?_⟩
 refine (callsIn_wide.2 (voc_call (hG.below hB0))).mono ?_
 rintro e w1 ⟨g, cap, rfl, hc1, hc2, hg0, hg1, hcell, hB1⟩
 have hM1 : MapHas w1 w.heap.size (fun _ => none) := hM0.kept (hB1.block _ (by omega))
 have hB2 : Below w.heap.size w w1 := hB0.trans (hB1.mono (by omega))
 have hc9 : (28 : Int) ≤ (cap : Int) := by omega
 gi_wp2_with fail
 gi_loopw [8] (fun p wr => ∃ i : Nat, i ≤ 28 ∧ p = .int .i64 i ∧ MapHas wr w.heap.size (valF i) ∧ Below w.heap.size w wr ∧ ∀ j, j < 32 → wr.cell? ⟨g, j, none⟩ = some (strV (vw j))) (fun p _ => 28 - (intOf p).toNat)
 case atStart => exact ⟨0, by omega, rfl, hM1.cong (fun s => rfl), hB2, hcell⟩
 case round =>
  obtain ⟨i, hi, rfl, hM, hB, hcl⟩ := hrel
  by_cases hlt : i < 28
  ·have cr := hcl i (by omega)
   have stp := valF_step hlt
   by_cases h20 : 20 < i
   ·gi_wp2_with (refine wpListIn_ins rfl rfl _ _ _ _ rfl rfl rfl rfl Tryz.underlying243 Tryz.underlying9 (by assumption) (by assumption) (Nat.le_refl _) (by first | assumption | exact fun _ _ => rfl) ?_; intro w2 hM2 hB2 hk2)
    go_roundw
    case rel =>
     refine ⟨i + 1, by omega, by go_num, hM2.cong (fun s => ?_), hB2, fun j hj => ?_⟩
     ·rw [stp s, if_pos h20]
      by_cases hs : s = vw i
      ·rw [if_pos hs, if_pos hs]; rfl
      ·rw [if_neg hs, if_neg hs, if_neg hs]
     ·rw [← hcl j hj]
      exact World.cell?_of_block (hk2 _ (show g ≠ _ by omega))
    case measure => simp [intOf]; omega
   ·gi_wp2_with (refine wpListIn_ins rfl rfl _ _ _ _ rfl rfl rfl rfl Tryz.underlying243 Tryz.underlying9 (by assumption) (by assumption) (Nat.le_refl _) (by first | assumption | exact fun _ _ => rfl) ?_; intro w2 hM2 hB2 hk2)
    go_roundw
    case rel =>
     refine ⟨i + 1, by omega, by go_num, hM2.cong (fun s => ?_), hB2, fun j hj => ?_⟩
     ·rw [stp s, if_neg h20]; rfl
     ·rw [← hcl j hj]
      exact World.cell?_of_block (hk2 _ (show g ≠ _ by omega))
    case measure => simp [intOf]; omega
  ·obtain rfl : i = 28 := by omega
   gi_wp2
   go_ret
   exact ⟨_, rfl, Nat.le_refl _, hM, hB⟩
def valT : TV := .list ((vocabL.take 28).zipIdx.map fun x => .agg [.str x.1, .int (if (20 : Nat) < x.2 then 10 * ((x.2 : Int) - 18) else x.2)])
theorem mval_idx (g : Nat → TV) (s : List UInt8) : ∀ (l : List By) (k : Nat), mval ((l.zipIdx k).map fun x => .agg [.str x.1, g x.2]) s = (l.findIdx? (· == s)).map fun j => g (k + j)
 | [], k => rfl
 | x :: l, k => by
  have ih := mval_idx g s l (k + 1)
  rw [List.findIdx?_cons]
  unfold mval at ih ⊢
  rw [List.zipIdx_cons, List.map_cons, List.find?_cons]
  show Option.map (fun x => x.cell 1) (match x == s with | true => some (TV.agg [.str x, g k]) | false => _) = _
  cases hx : x == s with
  | true => rfl
  | false =>
   simp only [Bool.false_eq_true, if_false]
   rw [ih, Option.map_map]
   congr 1
   funext j
   simp only [Function.comp_apply]
   congr 1
   omega
theorem valW_eq (s : By) : valW s = ((vocabL.take 28).findIdx? (· == s)).map fun j => if (20 : Nat) < j then 10 * ((j : Int) - 18) else (j : Int) := by
 unfold valW
 cases (vocabL.take 28).findIdx? (· == s) with
 | none => rfl
 | some j =>
  show some (if (20 : Int) < (j : Int) then 10 * ((j : Int) - 18) else (j : Int)) = some _
  congr 1
  dsimp only
  by_cases h : 20 < j
  ·rw [if_pos h, if_pos (by omega)]
  ·rw [if_neg h, if_neg (by omega)]
theorem mval_val (s : By) : mval valT.asList s = (valW s).map TV.int := by
 rw [valW_eq]
 unfold valT
 rw [zaa, mval_idx (fun j => .int (if (20 : Nat) < j then 10 * ((j : Int) - 18) else j)) s, Option.map_map]
 refine congrArg (fun f => Option.map f _) (funext fun j => ?_)
 simp only [Function.comp_apply, Nat.zero_add]
def nvalsL : Law := ⟨fun ts => ts = [], fun ts z₀ => ts = [] → z₀ = valT⟩
theorem nvals_pre : nvalsL.pre [] := rfl
theorem nvals_fin {z₀ : TV} (h : z₀ = valT) : nvalsL.post [] z₀ := fun _ => h
theorem nvals_all {Q : TV → Prop} : (∀ z₀, nvalsL.post [] z₀ → Q z₀) ↔ Q (valT) := ⟨fun h => h _ fun _ => rfl, fun h z₀ hr => by rw [hr rfl]; exact h⟩
theorem nvals_c (k : Nat) : Contract Tryz.prog (mkEnv globT []) gtabU (qts k) nvalsL.pre nvalsL.post :=
 Contract.leafM ⟨Tryz.f181, Tryz.f181.body.getD .skip, Tryz.func181, by kernel_rfl, by kernel_rfl⟩ fun w ts vs hg ha hp => by
  obtain rfl : ts = [] := hp
  have hv : vs.toList = [] := List.eq_nil_of_length_eq_zero ha.2.1.symm
  obtain rfl : vs = #[] := by rcases vs with ⟨l⟩; exact congrArg List.toArray hv
  refine ⟨valT, valF 28, nvals_fin rfl, fun s => ?_, vals_in w hg⟩
  rw [mval_val, Option.map_map]
  rw [valW_eq]
  unfold valF
  rw [Option.map_map]
  refine congrArg (fun f => Option.map f _) (funext fun j => ?_)
  simp only [Function.comp_apply, mcv, Bool.false_eq_true, if_false, zac]
end
end Go.Proofs.YtlhagkbhojmjpaaGreatDoor
