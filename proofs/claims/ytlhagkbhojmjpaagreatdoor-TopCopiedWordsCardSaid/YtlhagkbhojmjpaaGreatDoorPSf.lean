/- Written by this repo's own program out of its texts. -/
import Derived.Test.YtlhagkbhojmjpaaGreatDoorPSe
import Derived.Lib.OthersKept
import Derived.WalkSmall
set_option linter.unusedSimpArgs false
set_option linter.unusedVariables false
set_option linter.unusedSectionVars false
namespace Go.Proofs.YtlhagkbhojmjpaaGreatDoor
section
open Go.Shelf Go.RowKit
attribute [local go_sem] Oper.semAt_some
theorem own_iter {w : World} {B e size n : Nat} {v : Value} {xs : List Value} {k : Nat} {s : ByteArray} {pos : Nat} (h : w.ownsRow B e size v n xs) (hk : w.heap[k]? = some (.stringIter s pos)) (pos' : Nat) : (w.iterAt k s pos').ownsRow B e size v n xs := by
 refine ⟨h.1, h.2.imp id ?_⟩
 rintro ⟨g, cap, cur, h1, h2, h3, h4⟩
 refine ⟨g, cap, cur, h1, h2, ?_, h4⟩
 have hne : g ≠ k := fun e => by subst e; rw [hk] at h3; cases h3
 exact (Lib.iterAt_other w k g s pos' hne).trans h3
theorem number_call {w : World} (hG : GlobOk (mkEnv globT []) gtabU w) (n : Nat) (hn : n ≤ 999999999) : Calls Tryz.prog 142 #[.int .i64 n] w fun e w' => ∃ v, e = .returned v ∧ w'.ownsRow w.heap.size 9 1 v (qub n).length (strC (qub n)) ∧ Below w.heap.size w w' := by
 refine ((snumb_c 0).calls w [.int n] #[.int .i64 n] hG ⟨rfl, rfl, fun i x t v h1 h2 h3 => ?_⟩ (snumb_pre ⟨by omega, by omega⟩)).mono ?_
 ·match i, h1, h2, h3 with
  | 0, h1, h2, h3 => cases h1; cases h2; cases h3; exact ⟨_, rfl, .int .i64 (.int n)⟩
 ·rintro e w' ⟨t, v, G', rfl, hp, hb, _, hr⟩
  obtain rfl : t = strs (qub n) := hp n rfl
  exact ⟨v, rfl, ResRep.strs (l := qub n) hr, hb⟩
theorem digit_num {c : UInt8} (h : dgB c) : 48 ≤ c.toNat ∧ c.toNat ≤ 57 := ⟨UInt8.le_iff_toNat_le.1 h.1, UInt8.le_iff_toNat_le.1 h.2⟩
theorem ba_get (t : By) (i : Nat) (h : i < t.length) (h2 : i < (⟨t.toArray⟩ : ByteArray).size) : (⟨t.toArray⟩ : ByteArray)[i]'h2 = t[i] := by
 show (t.toArray)[i]'_ = _
 simp
theorem iter_kept {w w' : World} {B e size n : Nat} {v : Value} {xs : List Value} {k : Nat} {s : ByteArray} {pos : Nat} (ho : w.ownsRow B e size v n xs) (hk : w.heap[k]? = some (.stringIter s pos)) (hg : w.grownBy w' v.ownBlock) : w'.heap[k]? = some (.stringIter s pos) := by
 refine (hg.block k (Array.getElem?_eq_some_iff.1 hk).1 ?_).trans hk
 intro e
 rcases ho.2 with ⟨rfl, _⟩ | ⟨g, cap, cur, rfl, _, h3, _⟩
 ·cases e
 ·have e : some k = some g := e
  cases e
  rw [hk] at h3
  cases h3
theorem own_below {w w' : World} {B e size n : Nat} {v : Value} {xs : List Value} (h : w.ownsRow B e size v n xs) (hb : Below w.heap.size w w') : w'.ownsRow B e size v n xs := by
 refine ⟨h.1, h.2.imp id ?_⟩
 rintro ⟨g, cap, cur, h1, h2, h3, h4⟩
 exact ⟨g, cap, cur, h1, h2, (hb.block g (Array.getElem?_eq_some_iff.1 h3).1).trans h3, h4⟩
set_option maxRecDepth 100000 in
set_option maxHeartbeats 4000000 in
theorem digits_in (w : World) (hG : GlobOk (mkEnv globT []) gtabU w) (t : By) (v0 v2 v3 v4 v5 : Value) (dg : Bool) (ht : t ≠ []) (hd : ∀ c ∈ t, dgB c) (hl : t.length ≤ 1000000) :
  Calls Tryz.prog 140 #[.string ⟨t.toArray⟩, .agg #[v0, .bool dg, v2, v3, v4, v5]] w fun e w' => ∃ v, e = .returned v ∧ w'.ownsRow w.heap.size 9 1 v (qu4 t dg).length (strC (qu4 t dg)) ∧ Below w.heap.size w w' := by
 obtain ⟨i0, hi_, hz0, hz1, hz2⟩ := strI
 have hsz := baSize t
 refine (callsIn_wide (n := 2)).1 ?_
 refine callsIn_of_wp Tryz.func140 rfl trivial ?_ rfl
 simp only [Tryz.ntmps140, List.size_toArray, List.length_cons, List.length_nil, Nat.reduceAdd, Nat.reduceSub, Array.replicate_succ, Array.replicate_zero, List.push_toArray, List.append_toArray, List.nil_append, List.cons_append]
 have hgt : ∀ i (h : i < t.length), (⟨t.toArray⟩ : ByteArray)[i]'(by omega) = t[i] := fun i h => ba_get t i h _
 have mx : (100000000 : Nat) ≤ maxLen := by decide
 have hdc : ∀ i (h : i < t.length), 48 ≤ (t[i]).toNat ∧ (t[i]).toNat ≤ 57 := fun i h => digit_num (hd _ (List.getElem_mem h))
 have path : dg = true ∨ 9 < t.length ∨ (1 < t.length ∧ t.head? = some 48) → qu4 t dg = cwd 9 :: t.flatMap fun c => qub (c.toNat - 48) := fun h => if_pos h
 have pathB : ¬ (dg = true ∨ 9 < t.length ∨ (1 < t.length ∧ t.head? = some 48)) → qu4 t dg = qub (decV t) := fun h => if_neg h
 generalize qu4 t dg = D at *
 by_cases hc : dg = true ∨ 9 < t.length ∨ (1 < t.length ∧ t.head? = some 48)
 ·rw [path hc]
  clear path pathB
  obtain ⟨W1, hW1⟩ : ∃ W1, W1 = (w.alloc (.cells #[v0, .bool dg, v2, v3, v4, v5] 30)) := ⟨_, rfl⟩
  have hb1 : Below w.heap.size w W1 := by rw [hW1]; exact (Below.refl _ w).alloc (Nat.le_refl _) _
  have hs1 : W1.heap.size = w.heap.size + 1 := by rw [hW1, World.size_alloc]
  have ho2 := own_lit W1 [cwd 9] (by decide)
  obtain ⟨W2, hW2⟩ : ∃ W2, W2 = W1.alloc (.cells (strC [cwd 9]).toArray 9) := ⟨_, rfl⟩
  rw [← hW2] at ho2
  have hb2 : Below w.heap.size w W2 := by rw [hW2]; exact hb1.alloc (by omega) _
  have hs2 : W2.heap.size = w.heap.size + 1 + 1 := by rw [hW2, World.size_alloc, hs1]
  have hit := World.iter_heap W2 ⟨t.toArray⟩ 0
  obtain ⟨W3, hW3⟩ : ∃ W3, W3 = W2.iter ⟨t.toArray⟩ 0 := ⟨_, rfl⟩
  have hb3 : Below w.heap.size w W3 := by rw [hW3]; exact hb2.alloc (by omega) _
  have hs3 : W3.heap.size = w.heap.size + 1 + 1 + 1 := by rw [hW3]; show (W2.alloc _).heap.size = _; rw [World.size_alloc, hs2]
  have ho3 : W3.ownsRow w.heap.size 9 1 (.slice (some ⟨w.heap.size + 1, 0, none⟩) 1 1) 1 (strC [cwd 9]) := by
   rw [hW3, ← hs1]
   exact own_wider (ho2.alloc _) (by omega)
  rw [← hW3, hs2] at hit
  have hW3' : ((w.alloc (.cells #[v0, .bool dg, v2, v3, v4, v5] 30)).alloc (.cells #[.string ⟨#[100, 105, 103, 105, 116, 115]⟩] 9)).iter ⟨t.toArray⟩ 0 = W3 := by
   rw [hW3, hW2, hW1]; rfl
  clear hW1 hb1 hs1 ho2 hW2 hb2 hs2 hW3
  have h0 : t.length ≠ 0 := fun e => ht (List.length_eq_zero_iff.1 e)
  have hcc : dg = true ∨ (dg = false ∧ (9 : Int) < (t.length : Nat)) ∨ (dg = false ∧ ¬ (9 : Int) < (t.length : Nat) ∧ (1 : Int) < (t.length : Nat) ∧ ∃ h : 0 < t.length, (((t[0]'h).toNat : Nat) : Int) = 48) := by
   cases dg with
   | true => exact .inl rfl
   | false =>
    refine .inr ?_
    by_cases h9 : 9 < t.length
    ·exact .inl ⟨rfl, by omega⟩
    ·refine .inr ⟨rfl, by omega, ?_⟩
     rcases hc with h | h | ⟨h, h2⟩
     ·cases h
     ·exact absurd h h9
     ·refine ⟨by omega, by omega, ?_⟩
      cases t with
      | nil => cases h2
      | cons c t => cases h2; rfl
  clear hc
  have h0l : 0 < t.length := by omega
  have e48 := hgt 0 h0l
  rcases hcc with rfl | ⟨rfl, h9⟩ | ⟨rfl, h9, h1, h0l', h48⟩
  all_goals
   gi_wp2
   clear hW3'
   gi_loopw [5] (fun v wr => ∃ i : Nat, i ≤ t.length ∧ wr.heap[w.heap.size + 1 + 1]? = some (.stringIter ⟨t.toArray⟩ i) ∧ wr.ownsRow w.heap.size 9 1 v (cwd 9 :: (t.take i).flatMap fun c => qub (c.toNat - 48)).length (strC (cwd 9 :: (t.take i).flatMap fun c => qub (c.toNat - 48))) ∧ Below w.heap.size w wr) (fun _ wr => t.length - wr.iterPos (w.heap.size + 1 + 1))
   case atStart => exact ⟨0, Nat.zero_le _, hit, ho3, hb3⟩
   case round =>
    clear hit ho3 hb3 hs3
    obtain ⟨i, hi, hk, ho, hb⟩ := hrel
    have hmu : wr.iterPos (w.heap.size + 1 + 1) = i := by simp [World.iterPos, hk]
    by_cases hlt : i < t.length
    ·have hpos : i < (⟨t.toArray⟩ : ByteArray).size := by omega
     have hc := hdc i hlt
     have hnext : ∀ ty, (Instr.next (.pointer (some ⟨w.heap.size + 1 + 1, 0, none⟩)) true ty).run Tryz.prog wr = _ := fun ty => Lib.run_next_ascii_at wr (w.heap.size + 1 + 1) ⟨t.toArray⟩ i ty hk hpos (by rw [hgt i hlt]; omega)
     rw [hgt i hlt] at hnext
     have ho1 := own_iter ho hk (i + 1)
     have hk1 := Lib.iterAt_heap wr (w.heap.size + 1 + 1) ⟨t.toArray⟩ i (i + 1) hk
     have hb1 : Below w.heap.size w (wr.iterAt (w.heap.size + 1 + 1) ⟨t.toArray⟩ (i + 1)) := Lib.below_iterAt hb (by omega) ⟨t.toArray⟩ (i + 1)
     generalize wr.iterAt (w.heap.size + 1 + 1) ⟨t.toArray⟩ (i + 1) = W1 at hnext ho1 hk1 hb1
     obtain ⟨d, hdd⟩ : ∃ d : Nat, (t[i]).toNat = d + 48 := ⟨(t[i]).toNat - 48, by omega⟩
     rw [hdd] at hnext
     gi_wp2_with fail
     refine ⟨trivial, ?_⟩
     refine (callsIn_wide.2 (number_call (hG.below hb1) d (by omega))).mono ?_
     rintro e w2 ⟨vn, rfl, hov, hb2⟩
     obtain ⟨b, of, cp, rfl, hbl, hcs⟩ := strRow_own hov (qu5 d)
     have ho2 := own_below ho1 hb2
     have hk2 : w2.heap[w.heap.size + 1 + 1]? = some (.stringIter ⟨t.toArray⟩ (i + 1)) := (hb2.block _ (Array.getElem?_eq_some_iff.1 hk1).1).trans hk1
     have hz := hb1.size
     have hb3 : Below w.heap.size w w2 := hb1.trans (hb2.mono (by omega))
     have hz2' := hb3.size
     have hF : (t.take (i + 1)).flatMap (fun c => qub (c.toNat - 48)) = (t.take i).flatMap (fun c => qub (c.toNat - 48)) ++ qub d := by
      rw [List.take_succ_eq_append_getElem hlt, List.flatMap_append, List.flatMap_singleton, hdd, Nat.add_sub_cancel]
     have hfl := q38 (f := fun c : UInt8 => qub (c.toNat - 48)) (a := 14) (l := t.take i) fun x _ => wordsW_len _
     rw [List.length_take] at hfl
     have hwl := wordsW_len d
     have hcs2 : ∀ j u, (strC (qub d))[j]? = some u → w2.cell? (Addr.add ⟨b, of, none⟩ j) = some u := by
      intro j u hj
      have hjl : j < (qub d).length := by
       have := (List.getElem?_eq_some_iff.1 hj).1
       rwa [strC_len] at this
      have h1 : (qub d)[j]? = some ((qub d)[j]) := List.getElem?_eq_getElem hjl
      rw [strC_get h1] at hj
      cases hj
      rw [Addr.add_lit]
      exact hcs j _ h1
     clear ho ho1
     generalize hm : (t.take i).flatMap (fun c => qub (c.toNat - 48)) = m at hF hfl ho2
     clear hm
     obtain ⟨q, hq⟩ : ∃ q, q = cwd 9 :: m := ⟨_, rfl⟩
     have hql : q.length = m.length + 1 := by rw [hq]; rfl
     rw [← hq] at ho2
     gi_wp2_with (gi_at_builtin; refine wpListIn_append_own _ rfl _ _ 109 rfl w.heap.size 9 i0 _ 1 16 Tryz.underlying109 hi_ hz0 hz1 hz2 rfl (by decide) _ _ _ rfl ho2 ⟨b, of, none⟩ (qub d).length cp (strC (qub d)) rfl (by rw [strC_len, Nat.mul_one]) hcs2 (strC_one _) (by omega) (by omega) hz2' ?_)
     intro v' w3 hown' hg3 hnil3
     gi_wp2_with fail
     go_roundw
     case rel =>
      refine ⟨i + 1, by omega, ?_, ?_, hb3.grown hg3 hz2' fun k hk => (ho2.lt k hk).1⟩
      ·exact iter_kept ho2 hk2 hg3
      ·rw [hF, ← List.cons_append, strC_app, List.length_append, List.length_cons]
       exact hown'
     case measure =>
      rw [hmu, iterPos_of (iter_kept ho2 hk2 hg3)]
      omega
    ·obtain rfl : i = t.length := by omega
     rw [List.take_length] at ho
     have hnext : ∀ ty, (Instr.next (.pointer (some ⟨w.heap.size + 1 + 1, 0, none⟩)) true ty).run Tryz.prog wr = _ := fun ty => Lib.run_next_end_at wr (w.heap.size + 1 + 1) ⟨t.toArray⟩ t.length ty hk (by omega)
     gi_wp2_with fail
     go_ret
     exact ⟨_, rfl, ho, hb⟩
 ·have hdg : dg = false := by cases dg with | true => exact absurd (.inl rfl) hc | false => rfl
  subst hdg
  have hc9 : t.length ≤ 9 := Nat.le_of_not_lt fun h => hc (.inr (.inl h))
  have hc1 : 1 < t.length → t.head? ≠ some 48 := fun h k => hc (.inr (.inr ⟨h, k⟩))
  rw [pathB hc]
  clear path pathB hc
  have h0l : 0 < t.length := List.length_pos_iff.2 ht
  have e48 := hgt 0 h0l
  have hdec : ∀ i, i ≤ t.length → decV (t.take i) ≤ 999999999 := fun i hi => by
   have h1 := decV_lt (t.take i) 0 fun c hc => hd c (List.mem_of_mem_take hc)
   rw [Nat.zero_add, Nat.one_mul] at h1
   have h1 : decV (t.take i) < 10 ^ (t.take i).length := h1
   have h2 : 10 ^ (t.take i).length ≤ 10 ^ 9 := Nat.pow_le_pow_right (by omega) (by rw [List.length_take]; omega)
   omega
  obtain ⟨W1, hW1⟩ : ∃ W1, W1 = (w.alloc (.cells #[v0, .bool false, v2, v3, v4, v5] 30)) := ⟨_, rfl⟩
  have hb1 : Below w.heap.size w W1 := by rw [hW1]; exact (Below.refl _ w).alloc (Nat.le_refl _) _
  have hs1 : W1.heap.size = w.heap.size + 1 := by rw [hW1, World.size_alloc]
  have hit := World.iter_heap W1 ⟨t.toArray⟩ 0
  obtain ⟨W3, hW3⟩ : ∃ W3, W3 = W1.iter ⟨t.toArray⟩ 0 := ⟨_, rfl⟩
  have hb3 : Below w.heap.size w W3 := by rw [hW3]; exact hb1.alloc (by omega) _
  rw [← hW3, hs1] at hit
  have hW3' : ((w.alloc (.cells #[v0, .bool false, v2, v3, v4, v5] 30))).iter ⟨t.toArray⟩ 0 = W3 := by
   rw [hW3, hW1]
  clear hW1 hb1 hs1 hW3
  have hcc : (¬ (1 : Int) < (t.length : Nat)) ∨ ((1 : Int) < (t.length : Nat) ∧ ¬ (((t[0]'h0l).toNat : Nat) : Int) = 48) := by
   by_cases h : 1 < t.length
   ·refine .inr ⟨by omega, fun k => hc1 h ?_⟩
    cases t with
    | nil => simp at h
    | cons c t => exact congrArg some (UInt8.toNat_inj.1 (by have k : ((c.toNat : Nat) : Int) = 48 := k; show c.toNat = 48; omega))
   ·exact .inl (by omega)
  have h9 : ¬ (9 : Int) < (t.length : Nat) := by omega
  rcases hcc with h1 | ⟨h1, h48⟩
  all_goals
   gi_wp2
   clear hW3'
   gi_loopw [8] (fun v wr => ∃ i : Nat, i ≤ t.length ∧ wr.heap[w.heap.size + 1]? = some (.stringIter ⟨t.toArray⟩ i) ∧ v = .int .i64 (decV (t.take i) : Nat) ∧ Below w.heap.size w wr) (fun _ wr => t.length - wr.iterPos (w.heap.size + 1))
   case atStart => exact ⟨0, Nat.zero_le _, hit, rfl, hb3⟩
   case round =>
    clear hit hb3
    obtain ⟨i, hi, hk, rfl, hb⟩ := hrel
    have hmu : wr.iterPos (w.heap.size + 1) = i := by simp [World.iterPos, hk]
    by_cases hlt : i < t.length
    ·have hpos : i < (⟨t.toArray⟩ : ByteArray).size := by omega
     have hc := hdc i hlt
     have hnext : ∀ ty, (Instr.next (.pointer (some ⟨w.heap.size + 1, 0, none⟩)) true ty).run Tryz.prog wr = _ := fun ty => Lib.run_next_ascii_at wr (w.heap.size + 1) ⟨t.toArray⟩ i ty hk hpos (by rw [hgt i hlt]; omega)
     rw [hgt i hlt] at hnext
     have hk1 := Lib.iterAt_heap wr (w.heap.size + 1) ⟨t.toArray⟩ i (i + 1) hk
     have hb1 : Below w.heap.size w (wr.iterAt (w.heap.size + 1) ⟨t.toArray⟩ (i + 1)) := Lib.below_iterAt hb (by omega) ⟨t.toArray⟩ (i + 1)
     generalize wr.iterAt (w.heap.size + 1) ⟨t.toArray⟩ (i + 1) = W1 at hnext hk1 hb1
     have hd1 := hdec (i + 1) (by omega)
     have hst : decV (t.take (i + 1)) = 10 * decV (t.take i) + ((t[i]).toNat - 48) := by
      unfold decV
      rw [List.take_succ_eq_append_getElem hlt, List.foldl_append]; rfl
     obtain ⟨d, hdd⟩ : ∃ d : Nat, (t[i]).toNat = d + 48 := ⟨(t[i]).toNat - 48, by omega⟩
     rw [hdd] at hnext hst
     rw [hst] at hd1
     generalize decV (t.take i) = n at *
     gi_wp2_with fail
     go_roundw
     case rel => exact ⟨i + 1, by omega, hk1, by rw [hst]; go_num, hb1⟩
     case measure =>
      rw [hmu, iterPos_of hk1]
      omega
    ·obtain rfl : i = t.length := by omega
     have hd1 := hdec t.length (Nat.le_refl _)
     rw [List.take_length] at hd1 ⊢
     have hnext : ∀ ty, (Instr.next (.pointer (some ⟨w.heap.size + 1, 0, none⟩)) true ty).run Tryz.prog wr = _ := fun ty => Lib.run_next_end_at wr (w.heap.size + 1) ⟨t.toArray⟩ t.length ty hk (by omega)
     gi_wp2_with fail
     refine ⟨trivial, ?_⟩
     refine (callsIn_wide.2 (number_call (hG.below hb) (decV t) hd1)).mono ?_
     rintro e w2 ⟨vn, rfl, hov, hb2⟩
     gi_wp2_with fail
     go_ret
     exact ⟨_, rfl, own_wider hov hb.size, hb.trans (hb2.mono hb.size)⟩
def sdigitsL : Law := ⟨fun ts => ∃ (t : By) (r : Int) (dg : Bool) (sp : Bool) (rp : Int) (ct : Bool) (ce : Int), ts = [.str t, .agg [.int r, .bool dg, .bool sp, .int rp, .bool ct, .int ce]] ∧ (t ≠ [] ∧ (∀ c ∈ t, dgB c) ∧ t.length ≤ 1000000), fun ts z₀ => ∀ (t : By) (r : Int) (dg : Bool) (sp : Bool) (rp : Int) (ct : Bool) (ce : Int), ts = [.str t, .agg [.int r, .bool dg, .bool sp, .int rp, .bool ct, .int ce]] → z₀ = strs (qu4 t dg)⟩
theorem sdigits_pre {t : By} {r : Int} {dg : Bool} {sp : Bool} {rp : Int} {ct : Bool} {ce : Int} (h : t ≠ [] ∧ (∀ c ∈ t, dgB c) ∧ t.length ≤ 1000000) : sdigitsL.pre [.str t, .agg [.int r, .bool dg, .bool sp, .int rp, .bool ct, .int ce]] := ⟨t, r, dg, sp, rp, ct, ce, rfl, h⟩
theorem sdigits_fin {t : By} {r : Int} {dg : Bool} {sp : Bool} {rp : Int} {ct : Bool} {ce : Int} {z₀ : TV} (h : z₀ = strs (qu4 t dg)) : sdigitsL.post [.str t, .agg [.int r, .bool dg, .bool sp, .int rp, .bool ct, .int ce]] z₀ := fun t₁ r₁ dg₁ sp₁ rp₁ ct₁ ce₁ e => by
 simp only [qy] at e; obtain ⟨rfl, rfl, rfl, rfl, rfl, rfl, rfl⟩ := e
 exact h
theorem sdigits_all {t : By} {r : Int} {dg : Bool} {sp : Bool} {rp : Int} {ct : Bool} {ce : Int} {Q : TV → Prop} : (∀ z₀, sdigitsL.post [.str t, .agg [.int r, .bool dg, .bool sp, .int rp, .bool ct, .int ce]] z₀ → Q z₀) ↔ Q (strs (qu4 t dg)) := ⟨fun h => h _ (sdigits_fin rfl), fun h z₀ hr => by rw [hr _ _ _ _ _ _ _ rfl]; exact h⟩
theorem sdigits_c (k : Nat) : Contract Tryz.prog (mkEnv globT []) gtabU (qsm k) sdigitsL.pre sdigitsL.post :=
 Contract.leafS ⟨_, Tryz.f140.body.getD .skip, Tryz.func140, by kernel_rfl, by kernel_rfl⟩ fun w ts vs hg ha hp => by
  obtain ⟨t, r, dg, sp, rp, ct, ce, rfl, ht, hd, hl⟩ := hp
  obtain ⟨v0, vs0, e0, h0, ha⟩ := zcl ha
  obtain ⟨v1, vs1, e1, h1, ha⟩ := zcl ha
  obtain ⟨_, e2⟩ := zgh ha
  have h0 := zrj h0
  subst h0 e2 e1
  obtain ⟨a, rfl, hc⟩ := h1
  have ev : vs = #[.string ⟨t.toArray⟩, .agg a] := by apply Array.toList_inj.1; rw [e0]
  subst ev
  obtain ⟨l, rfl⟩ : ∃ l : List Value, a = l.toArray := ⟨a.toList, by simp⟩
  rw [List.toList_toArray] at hc
  obtain ⟨hc1, hc2⟩ := hc
  obtain ⟨u, hu, hr⟩ := hc2 1 (by decide)
  match l, hc1, hu with
  | [v0, v1, v2, v3, v4, v5], _, hu =>
   obtain rfl : v1 = u := by simpa using hu
   have hr : RepT (full w) .bool (.bool dg) v1 := hr
   cases hr
   exact ⟨qu4 t dg, sdigits_fin rfl, digits_in w hg t v0 v2 v3 v4 v5 dg ht hd hl⟩
end
end Go.Proofs.YtlhagkbhojmjpaaGreatDoor
