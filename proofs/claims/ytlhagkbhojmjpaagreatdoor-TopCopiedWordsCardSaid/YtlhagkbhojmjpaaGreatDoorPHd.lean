/- Written by this repo's own program out of its texts. -/
import Derived.Test.YtlhagkbhojmjpaaGreatDoorPHb
set_option linter.unusedSimpArgs false
set_option linter.unusedVariables false
set_option linter.unusedSectionVars false
namespace Go.Proofs.YtlhagkbhojmjpaaGreatDoor
section
open Go.Shelf Go.RowKit
attribute [local go_sem] Oper.semAt_some
def nmV : Array Value := (strC nameL).toArray
def emptyV : Array Value := Array.replicate 32 (.string ⟨#[]⟩)
theorem nmV_size : nmV.size = 32 := rfl
theorem nmV_one : ∀ v ∈ nmV.toList, v.oneCell' = true := fun v hv => strC_one nameL v (by simpa [nmV] using hv)
set_option maxRecDepth 100000 in
set_option maxHeartbeats 4000000 in
theorem split_in (w : World) (hG : GlobOk (mkEnv globT []) gtabU w) : Calls Tryz.prog 147 #[] w fun e w' => e = .returned (.agg nmV) ∧ Below w.heap.size w w' := by
 refine (callsIn_wide (n := 2)).1 ?_
 refine callsIn_of_wp Tryz.func147 rfl trivial ?_ rfl
 simp only [Tryz.ntmps147, List.size_toArray, List.length_cons, List.length_nil, Nat.reduceAdd, Nat.reduceSub, Array.replicate_succ, Array.replicate_zero, List.push_toArray, List.append_toArray, List.nil_append, List.cons_append]
 gi_wp2_with fail
 generalize hW2 : (w.alloc _).alloc _ = W2
 have h0 : HasC W2 w.heap.size emptyV 208 := by rw [← hW2]; exact (HasC.new w _ _).alloc _
 have h1 : HasC W2 (w.heap.size + 1) emptyV 208 := by
  rw [← hW2]
  have := HasC.new (w.alloc (.cells emptyV 208)) emptyV 208
  rwa [World.size_alloc] at this
 have hB2 : Below w.heap.size w W2 := by rw [← hW2]; exact ((Below.refl _ w).alloc (Nat.le_refl _) _).alloc (by simp) _
 have hs2 : W2.heap.size = w.heap.size + 2 := by rw [← hW2]; simp
 clear hW2
 have hF := fields_call (w := W2.drew) (hG.below (hB2.drew)) namesS (by decide) names_fields.2 (by rw [names_fields.1]; decide)
 rw [names_fields.1] at hF
 have hcp : ∀ (W3 : World) (g : Nat) (ty : TypeId), HasC W3 (w.heap.size + 1) emptyV 208 → (∀ j x, nameL[j]? = some x → W3.cell? ⟨g, j, none⟩ = some (strV x)) →
   (Builtin.copy_ #[109, 109] ty #[.slice (some ⟨w.heap.size + 1, 0, none⟩) 32 32, .slice (some ⟨g, 0, none⟩) nameL.length nameL.length]).run Tryz.prog W3 = .ok (goInt 32) (W3.setRow (w.heap.size + 1) nmV) := by
  intro W3 g ty hh hc
  have := run_copy_row (P := Tryz.prog) W3 109 109 ty 9 (w.heap.size + 1) 0 32 32 ⟨g, 0, none⟩ nameL.length nameL.length emptyV 208 (strC nameL) Tryz.underlying109 (by kernel_rfl) hh rfl (fun j v hj => by
   have hjl : j < nameL.length := by
    have := (List.getElem?_eq_some_iff.1 hj).1
    rwa [strC_len] at this
   have h1 : nameL[j]? = some (nameL[j]) := List.getElem?_eq_getElem hjl
   rw [strC_get h1] at hj
   cases hj
   rw [Addr.add_lit, Nat.zero_add]
   exact hc j _ h1) (by decide) (strC_one nameL)
  exact this
 gi_region_with (refine ⟨trivial, ?_⟩; gi_at_call 120; refine (callsIn_wide.2 hF).mono ?_; rintro e W3 ⟨g, rfl, hg1, hg2, hc3, hB3⟩; have hcp3 := fun ty => hcp W3 g ty ((show W3.heap[_]? = _ from (hB3.block _ (show w.heap.size + 1 < W2.heap.size by omega)).trans h1)) hc3)
 all_goals
  have e0 : W2.drew.heap.size = w.heap.size + 2 := hs2
  have a1 : HasC W3 (w.heap.size + 1) emptyV 208 := (hB3.block _ (by omega)).trans h1
  have a0 : HasC W3 w.heap.size emptyV 208 := (hB3.block _ (by omega)).trans h0
  have hB4 : Below w.heap.size w W3 := hB2.drew.trans (hB3.mono (by omega))
  generalize hW4 : W3.setRow (w.heap.size + 1) nmV = W4
  have b1 : HasC W4 (w.heap.size + 1) nmV 208 := by rw [← hW4]; exact a1.row
  have b0 : HasC W4 w.heap.size emptyV 208 := by rw [← hW4]; exact a0.rowO (by omega)
  have hB5 : Below w.heap.size w W4 := by rw [← hW4]; exact hB4.trans ⟨rfl, rfl, rfl, by simp [World.setRow], fun k hk => setRow_other W3 (w.heap.size + 1) k nmV (by omega)⟩
  clear hW4 hcp3 hcp hF
  have hld := load_all b1 (by kernel_rfl) (by kernel_rfl) nmV_size
  have hst := store_all (vs := nmV) b0 (by kernel_rfl) (by rfl) nmV_size nmV_one
  gi_wp2_with (first | (refine wpListIn_load (t := 208) rfl rfl hld ?_) | (refine wpListIn_store (t := 208) rfl rfl rfl hst ?_))
  have hres := load_all (b0.row (vs := nmV)) (by kernel_rfl) (by kernel_rfl) nmV_size
  have hv : (loadVar 208 ⟨w.heap.size, 0, none⟩).run Tryz.prog (W4.setRow w.heap.size nmV) = .ok (.agg nmV) (W4.setRow w.heap.size nmV) := by simpa [Instr.loadAt, Instr.sureAddr] using hres
  refine ⟨rfl, .agg nmV, ?_, rfl, hB5.trans ⟨rfl, rfl, rfl, by simp [World.setRow], fun k hk => setRow_other W4 w.heap.size k nmV (by omega)⟩⟩
  simp [results, Tryz.f147, Act.put, asAddr, hv]
def sgnX (r : Int) : Int := match sgnI r with
 | some i => i
 | none => -1
theorem sgn_range : ∀ i : Fin 32, 33 ≤ ((signL.getD i.val 0).toNat : Int) ∧ ((signL.getD i.val 0).toNat : Int) ≤ 126 := by decide +kernel
theorem sgn_out {r : Int} (h : r < 33 ∨ 126 < r) : sgnI r = none := by
 cases hs : sgnI r with
 | none => rfl
 | some i =>
  obtain ⟨h1, h2⟩ := sgn_idx hs
  have := sgn_range ⟨i, h1⟩
  simp only at this
  omega
theorem sgn_byte : ∀ i : Fin 127, Lib.indexByte signL (IntKind.wrap .u8 (i.val : Int)).toNat.toUInt8 = sgnX (i.val : Int) := by decide +kernel
def gixL : Law := ⟨fun ts => ∃ (r : Int), ts = [.int r] ∧ (True), fun ts z₀ => ∀ (r : Int), ts = [.int r] → z₀ = .int (sgnX r)⟩
theorem gix_pre {r : Int} (h : True) : gixL.pre [.int r] := ⟨r, rfl, h⟩
theorem gix_fin {r : Int} {z₀ : TV} (h : z₀ = .int (sgnX r)) : gixL.post [.int r] z₀ := fun r₁ e => by
 simp only [qy] at e; subst e
 exact h
theorem gix_all {r : Int} {Q : TV → Prop} : (∀ z₀, gixL.post [.int r] z₀ → Q z₀) ↔ Q (.int (sgnX r)) := ⟨fun h => h _ (gix_fin rfl), fun h z₀ hr => by rw [hr _ rfl]; exact h⟩
theorem gix_c (k : Nat) : Contract Tryz.prog (mkEnv globT []) gtabU (qq5 k) gixL.pre gixL.post := Contract.env (Γ := mkEnv globT [sibL]) (contract_signnames_index (fun _ => rfl) (fun s hs => by
  simp only [cx_signnames_index, List.mem_cons, List.not_mem_nil, or_false] at hs
  rcases hs with rfl
  ·exact Contract.inEnv rfl (sib_c 0) rfl) k (by
 rintro ts hl ⟨r, rfl, hp⟩
 have hfin : ∀ z₀ : TV, z₀ = .int (sgnX r) → gixL.post [.int r] z₀ := fun z₀ hz₀ => gix_fin hz₀
 generalize gixL.post [.int r] = R at hfin ⊢
 unfold tr_signnames_index
 have e : [33, 34, 35, 36, 37, 38, 39, 40, 41, 42, 43, 44, 45, 46, 47, 58, 59, 60, 61, 62, 63, 64, 91, 92, 93, 94, 95, 96, 123, 124, 125, 126] = signL := rfl
 simp only [Tree.den, E.den, P1.den, P2.den, P3.den, TV.cell, ne_eq, forall_eq, Int.reduceToNat, exists_eq_left', qz, sib_all, e]
 refine ⟨fun h => hfin _ ?_, fun h => ⟨fun h2 => hfin _ ?_, fun h2 => ⟨sib_pre (by decide), hfin _ ?_⟩⟩⟩
 ·unfold sgnX; rw [sgn_out (.inl h)]
 ·unfold sgnX; rw [sgn_out (.inr h2)]
 ·obtain ⟨k, rfl⟩ : ∃ k : Nat, r = k := ⟨r.toNat, by omega⟩
  rw [sgn_byte ⟨k, by omega⟩])) rfl
theorem ResRep.intL {B : Nat} {w : World} {G : Nat → Prop} {k : IntKind} {n : Int} {v : Value} (h : ResRep B w G [(false, [(.int k, none)])] (.int n) v) : v = .int k n := by
 obtain ⟨vs, hv, hl, hs, _, hc, _⟩ := h
 match vs, hl with
 | [v'], _ =>
  have h2 : RepT (Proofs.YtlhagkbhojmjpaaGreatDoor.fresh w G B) (.int k) (.int n) v' := hc 0 _ _ rfl rfl
  cases h2
  exact hv
theorem idx_call {w : World} (hG : GlobOk (mkEnv globT []) gtabU w) (r : Int) : Calls Tryz.prog 207 #[.int .i32 r] w fun e w' => e = .returned (.int .i64 (sgnX r)) ∧ Below w.heap.size w w' := by
 refine ((gix_c 0).calls w [.int r] #[.int .i32 r] hG ⟨rfl, rfl, fun i x t v h1 h2 h3 => ?_⟩ (gix_pre trivial)).mono ?_
 ·match i, h1, h2, h3 with
  | 0, h1, h2, h3 => cases h1; cases h2; cases h3; exact ⟨_, rfl, .int .i32 (.int r)⟩
 ·rintro e w' ⟨t, v, G', rfl, hp, hb, _, hr⟩
  obtain rfl := hp r rfl
  obtain rfl := hr.intL
  exact ⟨rfl, hb⟩
theorem sgnX_some {r : Int} {i : Nat} (h : sgnI r = some i) : sgnX r = i ∧ i < 32 := ⟨by unfold sgnX; rw [h], (sgn_idx h).1⟩
theorem sgnX_none {r : Int} (h : sgnI r = none) : sgnX r = -1 := by unfold sgnX; rw [h]
set_option maxRecDepth 100000 in
set_option maxHeartbeats 4000000 in
theorem name_none (w : World) (hG : GlobOk (mkEnv globT []) gtabU w) (r : Int) (h : sgnI r = none) : Calls Tryz.prog 195 #[.int .i32 r] w fun e w' => e = .returned (.tuple #[.string ⟨#[]⟩, .bool false]) ∧ Below w.heap.size w w' := by
 refine (callsIn_wide (n := 2)).1 ?_
 refine callsIn_of_wp Tryz.func195 rfl trivial ?_ rfl
 simp only [Tryz.ntmps195, List.size_toArray, List.length_cons, List.length_nil, Nat.reduceAdd, Nat.reduceSub, Array.replicate_succ, Array.replicate_zero, List.push_toArray, List.append_toArray, List.nil_append, List.cons_append]
 have hi := idx_call hG r
 rw [sgnX_none h] at hi
 gi_wp2_with (refine ⟨trivial, ?_⟩; gi_at_call 207; refine (callsIn_wide.2 hi).mono ?_; rintro e w1 ⟨rfl, hb⟩)
 go_ret2
 exact ⟨rfl, hb⟩
theorem nm_get {i : Nat} (h : i < 32) : nmV[i]? = some (strV (sg nameL i)) := by
 unfold nmV
 rw [List.getElem?_toArray, strC_get (b := sg nameL i)]
 unfold sg
 rw [List.getD_eq_getElem?_getD, List.getElem?_eq_getElem (show i < nameL.length from h)]; rfl
theorem run_ixA (W : World) {i : Nat} (h : i < 32) : (Instr.index 208 (.agg nmV) (.int .i64 (i : Int))).run Tryz.prog W = .ok (strV (sg nameL i)) W := by
 have hu : Tryz.prog.underlying 208 = some (.array 32 9) := by kernel_rfl
 have hi : (0 : Int) ≤ (i : Int) ∧ (i : Int) < ((32 : Nat) : Int) := ⟨by omega, by omega⟩
 simp only [Instr.index, asIntOf, Sem.run_bind, Sem.run_pure, Result.andThen_ok, run_underlying hu, if_pos hi, part, Tryz.isAgg9, Bool.false_eq_true, if_false, zgn (P := Tryz.prog) (t := 9) (n := 1) (by kernel_rfl), Int.toNat_natCast, Nat.mul_one, nm_get h]
set_option maxRecDepth 100000 in
set_option maxHeartbeats 4000000 in
theorem name_some (w : World) (hG : GlobOk (mkEnv globT []) gtabU w) (r : Int) {i : Nat} (h : sgnI r = some i) : Calls Tryz.prog 195 #[.int .i32 r] w fun e w' => e = .returned (.tuple #[strV (sg nameL i), .bool true]) ∧ Below w.heap.size w w' := by
 refine (callsIn_wide (n := 3)).1 ?_
 refine callsIn_of_wp Tryz.func195 rfl trivial ?_ rfl
 simp only [Tryz.ntmps195, List.size_toArray, List.length_cons, List.length_nil, Nat.reduceAdd, Nat.reduceSub, Array.replicate_succ, Array.replicate_zero, List.push_toArray, List.append_toArray, List.nil_append, List.cons_append]
 have hi := idx_call hG r
 obtain ⟨h1, h2⟩ := sgnX_some h
 rw [h1] at hi
 gi_wp2_with (refine ⟨trivial, ?_⟩; gi_at_call 207; refine (callsIn_wide.2 hi).mono ?_; rintro e w1 ⟨rfl, hb⟩)
 have hsp := split_in w1 (hG.below hb)
 refine ⟨trivial, ?_⟩
 refine (callsIn_wide.2 hsp).mono ?_
 rintro e w2 ⟨rfl, hb2⟩
 have hix := run_ixA w2 h2
 gi_wp2_with fail
 go_ret2
 exact ⟨rfl, hb.trans (hb2.mono hb.size)⟩
def signR (s : By) : Value := match nameL.findIdx? (· == s) with | some i => .tuple #[.int .i32 ((signL.getD i 0).toNat : Int), .bool true] | none => .tuple #[.int .i32 0, .bool false]
theorem find_at {L : List By} {s : By} {i : Nat} (hi : i < L.length) (he : sg L i = s) (hno : ∀ j, j < i → ¬ sg L j = s) : L.findIdx? (· == s) = some i := by
 rw [List.findIdx?_eq_some_iff_getElem]
 have e : ∀ j (h : j < L.length), L[j] = sg L j := fun j h => by
  unfold sg
  rw [List.getD_eq_getElem?_getD, List.getElem?_eq_getElem h]; rfl
 refine ⟨hi, ?_, fun j hj => ?_⟩
 ·rw [e i hi, he]; simp
 ·rw [e j (by omega)]
  simpa using hno j hj
theorem zv9 {L : List By} {s : By} (hno : ∀ j, j < L.length → ¬ sg L j = s) : L.findIdx? (· == s) = none := by
 rw [List.findIdx?_eq_none_iff]
 intro x hx
 obtain ⟨j, hj, rfl⟩ := List.mem_iff_getElem.1 hx
 have := hno j hj
 unfold sg at this
 rw [List.getD_eq_getElem?_getD, List.getElem?_eq_getElem hj] at this
 simpa using this
theorem sign_byte (i : Nat) (h : i < 32) (h' : i < (⟨signL.toArray⟩ : ByteArray).size) : wrap32 (((⟨signL.toArray⟩ : ByteArray)[i]'h').toNat : Int) = ((signL.getD i 0).toNat : Int) := by
 have e : (⟨signL.toArray⟩ : ByteArray)[i]'h' = signL.getD i 0 := by
  show signL.toArray[i]'(by rw [List.size_toArray]; exact h) = _
  rw [List.getElem_toArray, List.getD_eq_getElem?_getD, List.getElem?_eq_getElem (show i < signL.length from h)]; rfl
 rw [e]
 have := (signL.getD i 0).toNat_lt
 unfold wrap32
 omega
set_option maxRecDepth 100000 in
set_option maxHeartbeats 4000000 in
theorem sign_in (w : World) (hG : GlobOk (mkEnv globT []) gtabU w) (s : By) : Calls Tryz.prog 206 #[.string ⟨s.toArray⟩] w fun e w' => e = .returned (signR s) ∧ Below w.heap.size w w' := by
 refine (callsIn_wide (n := 3)).1 ?_
 refine callsIn_of_wp Tryz.func206 rfl trivial ?_ rfl
 simp only [Tryz.ntmps206, List.size_toArray, List.length_cons, List.length_nil, Nat.reduceAdd, Nat.reduceSub, Array.replicate_succ, Array.replicate_zero, List.push_toArray, List.append_toArray, List.nil_append, List.cons_append]
 have hsp := split_in w hG
 gi_wp2_with (refine ⟨trivial, ?_⟩; gi_at_call 147; refine (callsIn_wide.2 hsp).mono ?_; rintro e w1 ⟨rfl, hb⟩)
 gi_loopw [7] (fun p wr => ∃ i : Nat, i ≤ 32 ∧ p = .int .i64 i ∧ wr = w1 ∧ ∀ j, j < i → ¬ sg nameL j = s) (fun p _ => 32 - (intOf p).toNat)
 case atStart => exact ⟨0, by omega, rfl, rfl, fun j hj => absurd hj (by omega)⟩
 case round =>
  obtain ⟨i, hi, rfl, hw, hno⟩ := hrel
  have hw := hw.symm
  subst hw
  by_cases hlt : i < 32
  ·have hix : (Instr.index 208 (.agg nmV) (.int .i64 (i : Int))).run Tryz.prog w1 = .ok (.string ⟨(sg nameL i).toArray⟩) w1 := run_ixA w1 hlt
   by_cases he : sg nameL i = s
   ·have hq : (sg nameL i == s) = true := by simpa using he
    have hr : signR s = .tuple #[.int .i32 ((signL.getD i 0).toNat : Int), .bool true] := by
     unfold signR
     rw [find_at (L := nameL) hlt he hno]
    gi_wp2_with fail
    go_ret2
    refine ⟨?_, hb⟩
    exact congrArg (fun z => Ending.returned (.tuple #[.int .i32 z, .bool true])) (sign_byte i hlt hlt)
   ·have hq : (sg nameL i == s) = false := by simpa using he
    gi_wp2_with fail
    go_roundw
    case rel =>
     refine ⟨i + 1, by omega, by go_num, trivial, fun j hj => ?_⟩
     rcases Nat.lt_or_ge j i with h | h
     ·exact hno j h
     ·obtain rfl : j = i := by omega
      exact he
    case measure => simp [intOf]; omega
  ·obtain rfl : i = 32 := by omega
   have hr : signR s = .tuple #[.int .i32 0, .bool false] := by
    unfold signR
    rw [zv9 (L := nameL) hno]
   gi_wp2_with fail
   go_ret2
   exact ⟨rfl, hb⟩
set_option maxRecDepth 100000 in
set_option maxHeartbeats 4000000 in
theorem names_in (w : World) (hG : GlobOk (mkEnv globT []) gtabU w) : Calls Tryz.prog 121 #[] w fun e w' => ∃ g, e = .returned (.slice (some ⟨g, 0, none⟩) 32 32) ∧ w.heap.size ≤ g ∧ g < w'.heap.size ∧ (∀ j x, nameL[j]? = some x → w'.cell? ⟨g, j, none⟩ = some (strV x)) ∧ Below w.heap.size w w' := by
 refine (callsIn_wide (n := 3)).1 ?_
 refine callsIn_of_wp Tryz.func121 rfl trivial ?_ rfl
 simp only [Tryz.ntmps121, List.size_toArray, List.length_cons, List.length_nil, Nat.reduceAdd, Nat.reduceSub, Array.replicate_succ, Array.replicate_zero, List.push_toArray, List.append_toArray, List.nil_append, List.cons_append]
 have hsp := split_in w hG
 gi_wp2_with (first | (refine ⟨trivial, ?_⟩; gi_at_call 147; refine (callsIn_wide.2 hsp).mono ?_; rintro e w1 ⟨rfl, hb⟩) | (refine wpListIn_store (t := 208) rfl rfl rfl (store_all (vs := nmV) (HasC.new _ emptyV 208) (by kernel_rfl) (by rfl) nmV_size nmV_one) ?_))
 have h1 := (HasC.new w1 emptyV 208).row (vs := nmV)
 have hb2 : Below w.heap.size w (w1.alloc (.cells emptyV 208)) := hb.alloc hb.size _
 have hb3 : Below w.heap.size w ((w1.alloc (.cells emptyV 208)).setRow w1.heap.size nmV) := hb2.trans ⟨rfl, rfl, rfl, by simp [World.setRow], fun k hk => setRow_other _ w1.heap.size k nmV (by have := hb.size; omega)⟩
 go_ret
 refine ⟨w1.heap.size, rfl, hb.size, h1.lt, fun j x hx => ?_, hb3⟩
 refine h1.cell j ?_
 unfold nmV
 rw [List.getElem?_toArray]
 exact strC_get hx
def nameT (r : Int) : TV := match sgnI r with
 | some i => .agg [.str (sg nameL i), .bool true]
 | none => .agg [.str [], .bool false]
def gnameL : Law := ⟨fun ts => ∃ (r : Int), ts = [.int r] ∧ (True), fun ts z₀ => ∀ (r : Int), ts = [.int r] → z₀ = nameT r⟩
theorem gname_pre {r : Int} (h : True) : gnameL.pre [.int r] := ⟨r, rfl, h⟩
theorem q4h {r : Int} {z₀ : TV} (h : z₀ = nameT r) : gnameL.post [.int r] z₀ := fun r₁ e => by
 simp only [qy] at e; subst e
 exact h
theorem gname_all {r : Int} {Q : TV → Prop} : (∀ z₀, gnameL.post [.int r] z₀ → Q z₀) ↔ Q (nameT r) := ⟨fun h => h _ (q4h rfl), fun h z₀ hr => by rw [hr _ rfl]; exact h⟩
theorem gname_c (k : Nat) : Contract Tryz.prog (mkEnv globT []) gtabU (qt0 k) gnameL.pre gnameL.post :=
 Contract.leaf2 ⟨_, Tryz.f195.body.getD .skip, Tryz.func195, by kernel_rfl, by kernel_rfl⟩ fun w ts vs hg ha hp => by
  obtain ⟨r, rfl, _⟩ := hp
  obtain ⟨v0, vs0, e0, h0, ha⟩ := zcl ha
  obtain ⟨_, e2⟩ := zgh ha
  have h0 := argRep_int h0
  subst h0 e2
  have ev : vs = #[.int .i32 r] := by apply Array.toList_inj.1; rw [e0]
  subst ev
  cases h : sgnI r with
  | none => exact ⟨.str [], .bool false, _, _, fun M => .str (.str []), fun M => .bool (.bool false), q4h (by unfold nameT; rw [h]), name_none w hg r h⟩
  | some i => exact ⟨.str (sg nameL i), .bool true, _, _, fun M => .str (.str (sg nameL i)), fun M => .bool (.bool true), q4h (by unfold nameT; rw [h]), name_some w hg r h⟩
def signT (s : By) : TV := match nameL.findIdx? (· == s) with
 | some i => .agg [.int (signL.getD i 0).toNat, .bool true]
 | none => .agg [.int 0, .bool false]
def gsignL : Law := ⟨fun ts => ∃ (s : By), ts = [.str s] ∧ (True), fun ts z₀ => ∀ (s : By), ts = [.str s] → z₀ = signT s⟩
theorem gsign_pre {s : By} (h : True) : gsignL.pre [.str s] := ⟨s, rfl, h⟩
theorem q4i {s : By} {z₀ : TV} (h : z₀ = signT s) : gsignL.post [.str s] z₀ := fun s₁ e => by
 simp only [qy] at e; subst e
 exact h
theorem gsign_all {s : By} {Q : TV → Prop} : (∀ z₀, gsignL.post [.str s] z₀ → Q z₀) ↔ Q (signT s) := ⟨fun h => h _ (q4i rfl), fun h z₀ hr => by rw [hr _ rfl]; exact h⟩
theorem gsign_c (k : Nat) : Contract Tryz.prog (mkEnv globT []) gtabU (qtz k) gsignL.pre gsignL.post :=
 Contract.leaf2 ⟨_, Tryz.f206.body.getD .skip, Tryz.func206, by kernel_rfl, by kernel_rfl⟩ fun w ts vs hg ha hp => by
  obtain ⟨s, rfl, _⟩ := hp
  obtain ⟨v0, vs0, e0, h0, ha⟩ := zcl ha
  obtain ⟨_, e2⟩ := zgh ha
  have h0 := zrj h0
  subst h0 e2
  have ev : vs = #[.string ⟨s.toArray⟩] := by apply Array.toList_inj.1; rw [e0]
  subst ev
  have key := sign_in w hg s
  unfold signR at key
  cases h : nameL.findIdx? (· == s) with
  | none =>
   rw [h] at key
   exact ⟨.int 0, .bool false, _, _, fun M => .int .i32 (.int 0), fun M => .bool (.bool false), q4i (by unfold signT; rw [h]), key⟩
  | some i =>
   rw [h] at key
   exact ⟨.int (signL.getD i 0).toNat, .bool true, _, _, fun M => .int .i32 (.int (signL.getD i 0).toNat), fun M => .bool (.bool true), q4i (by unfold signT; rw [h]), key⟩
end
end Go.Proofs.YtlhagkbhojmjpaaGreatDoor
