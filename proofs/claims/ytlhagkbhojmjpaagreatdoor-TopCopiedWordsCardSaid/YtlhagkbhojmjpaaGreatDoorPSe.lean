/- Written by this repo's own program out of its texts. -/
import Derived.Test.YtlhagkbhojmjpaaGreatDoorPSd
set_option linter.unusedSimpArgs false
set_option linter.unusedVariables false
set_option linter.unusedSectionVars false
namespace Go.Proofs.YtlhagkbhojmjpaaGreatDoor
def asc (t : By) : Prop := ∀ c ∈ t, c.toNat < 128
theorem low_asc {t : By} (h : asc t) : asc (t.map lowC) := fun c hc => by
 obtain ⟨d, hd, rfl⟩ := List.mem_map.1 hc
 have := h d hd
 have e : ∀ d : UInt8, d.toNat < 128 → (lowC d).toNat < 128 := by
  intro d hd
  unfold lowC
  split
  ·rename_i k
   have h2 := UInt8.le_iff_toNat_le.1 k.2
   simp at h2
   rw [UInt8.toNat_add]
   simp
   omega
  ·exact hd
 exact e d this
def LtI (t : By) (xs : List TV) : Prop := ∃ i : Nat, xs = [.int (highN (t.take i) : Nat), .int i] ∧ i ≤ t.length
def Ltm (t : By) (xs : List TV) : Nat := t.length - (xs.getD 1 (.int 0)).asInt.toNat
def slettersL : Law := ⟨fun ts => ∃ (t : By) (r : Int) (dg : Bool) (sp : Bool) (rp : Int) (ct : Bool) (ce : Int), ts = [.str t, .agg [.int r, .bool dg, .bool sp, .int rp, .bool ct, .int ce]] ∧ (asc t ∧ t.length ≤ 1000000), fun ts z₀ => ∀ (t : By) (r : Int) (dg : Bool) (sp : Bool) (rp : Int) (ct : Bool) (ce : Int), ts = [.str t, .agg [.int r, .bool dg, .bool sp, .int rp, .bool ct, .int ce]] → z₀ = strs (quw t sp)⟩
theorem sletters_pre {t : By} {r : Int} {dg : Bool} {sp : Bool} {rp : Int} {ct : Bool} {ce : Int} (h : asc t ∧ t.length ≤ 1000000) : slettersL.pre [.str t, .agg [.int r, .bool dg, .bool sp, .int rp, .bool ct, .int ce]] := ⟨t, r, dg, sp, rp, ct, ce, rfl, h⟩
theorem q4m {t : By} {r : Int} {dg : Bool} {sp : Bool} {rp : Int} {ct : Bool} {ce : Int} {z₀ : TV} (h : z₀ = strs (quw t sp)) : slettersL.post [.str t, .agg [.int r, .bool dg, .bool sp, .int rp, .bool ct, .int ce]] z₀ := fun t₁ r₁ dg₁ sp₁ rp₁ ct₁ ce₁ e => by
 simp only [qy] at e; obtain ⟨rfl, rfl, rfl, rfl, rfl, rfl, rfl⟩ := e
 exact h
theorem sletters_all {t : By} {r : Int} {dg : Bool} {sp : Bool} {rp : Int} {ct : Bool} {ce : Int} {Q : TV → Prop} : (∀ z₀, slettersL.post [.str t, .agg [.int r, .bool dg, .bool sp, .int rp, .bool ct, .int ce]] z₀ → Q z₀) ↔ Q (strs (quw t sp)) := ⟨fun h => h _ (q4m rfl), fun h z₀ hr => by rw [hr _ _ _ _ _ _ _ rfl]; exact h⟩
theorem sletters_c (k : Nat) : Contract Tryz.prog (mkEnv globT []) gtabU (qqi k) slettersL.pre slettersL.post := Contract.env (Γ := mkEnv globT [slowL, ssplL, sresvL]) (qua (fun _ => rfl) (fun s hs => by
  simp only [cx_spokentext_letters, List.mem_cons, List.not_mem_nil, or_false] at hs
  rcases hs with rfl | rfl | rfl
  ·exact Contract.inEnv rfl (slow_c 0) rfl
  ·exact Contract.inEnv rfl (sspl_c 1) rfl
  ·exact Contract.inEnv rfl (sresv_c 2) rfl) k (by
 rintro ts hl ⟨t, r, dg, sp, rp, ct, ce, rfl, hp⟩
 have hfin : ∀ z₀ : TV, z₀ = strs (quw t sp) → slettersL.post [.str t, .agg [.int r, .bool dg, .bool sp, .int rp, .bool ct, .int ce]] z₀ := fun z₀ hz₀ => q4m hz₀
 generalize slettersL.post [.str t, .agg [.int r, .bool dg, .bool sp, .int rp, .bool ct, .int ce]] = R at hfin ⊢
 unfold tr_spokentext_letters
 obtain ⟨ha, hl⟩ := hp
 have hal := low_asc ha
 simp only [Tree.den, E.den, P1.den, P2.den, P3.den, TV.cell, ne_eq, forall_eq, Int.reduceToNat, exists_eq_left', qz, slow_all]
 refine ⟨slow_pre ⟨ha, hl⟩, LtI t, Ltm t, ⟨0, rfl, by omega⟩, ?_⟩
 rintro xs _ ⟨i, rfl, hi⟩
 have ew : IntKind.wrap .i64 ((i : Int) + 1) = ((i + 1 : Nat) : Int) := by rw [wrap_i64 (by omega) (by omega)]; omega
 have hlm : (t.map lowC).length = t.length := List.length_map _
 simp only [Tree.den, E.den, P1.den, P2.den, P3.den, TV.cell, ne_eq, forall_eq, Int.reduceToNat, exists_eq_left', qz, ew, Int.toNat_natCast, sspl_all, sresv_all]
 have hle : highN (t.take i) ≤ i := by
  unfold highN
  have := List.countP_le_length (p := fun c => decide (lowC c ≠ c)) (l := t.take i)
  rw [List.length_take] at this
  omega
 refine ⟨fun hlt => ?_, fun hn => ?_⟩
 ·have hlt : i < t.length := by omega
  have hgd : t.getD i 0 = t[i] := by rw [List.getD_eq_getElem?_getD, List.getElem?_eq_getElem hlt]; rfl
  have hgl : (t.map lowC).getD i 0 = lowC t[i] := by rw [List.getD_eq_getElem?_getD, List.getElem?_map, List.getElem?_eq_getElem hlt]; rfl
  have hs : highN (t.take (i + 1)) = highN (t.take i) + if lowC t[i] ≠ t[i] then 1 else 0 := by
   unfold highN
   rw [List.take_succ_eq_append_getElem hlt, List.countP_append, List.countP_singleton]
   simp only [decide_eq_true_eq]
  have hm : Ltm t [TV.int ((highN (t.take (i + 1)) : Nat) : Int), TV.int ((i + 1 : Nat) : Int)] < Ltm t [TV.int ((highN (t.take i) : Nat) : Int), TV.int (i : Int)] := by
   simp only [Ltm, List.getD_cons_zero, List.getD_cons_succ, zac]; omega
  rw [hgd, hgl]
  refine ⟨by omega, by omega, by omega, by omega, fun hne => ?_, fun he => ?_⟩
  ·rw [if_pos (fun e => hne (by rw [e]))] at hs
   have e2 : IntKind.wrap .i64 (((highN (t.take i) : Nat) : Int) + 1) = ((highN (t.take (i + 1)) : Nat) : Int) := by rw [wrap_i64 (by omega) (by omega)]; omega
   rw [e2]
   exact ⟨⟨i + 1, rfl, by omega⟩, hm⟩
  ·rw [if_neg (fun k => k (UInt8.toNat_inj.1 (by omega)))] at hs
   have hs : highN (t.take (i + 1)) = highN (t.take i) := hs
   rw [← hs] at hm ⊢
   exact ⟨⟨i + 1, rfl, by omega⟩, hm⟩
 obtain rfl : i = t.length := by omega
 rw [List.take_length] at hle ⊢
 unfold quw at hfin
 generalize t.map lowC = low at *
 have hC : ∀ C : List By, (if highN t = 1 then [cwd 2] else if 1 < highN t then [cwd 3] else []) = C → (sp = true → R (TV.list (C.map TV.str ++ TV.str (cwd 7) :: ((strs (low.map fun c => [c])).asList ++ [TV.str (cwd 8)])))) ∧ (sp = false → (resB low = true → R (TV.list (C.map TV.str ++ [TV.str (cwd 4), TV.str low]))) ∧ (resB low = false → R (TV.list (C.map TV.str ++ [TV.str low])))) := by
  intro C hC
  rw [hC] at hfin
  refine ⟨fun h => hfin _ ?_, fun h => ⟨fun h2 => hfin _ ?_, fun h2 => hfin _ ?_⟩⟩
  ·rw [if_pos h]; simp [strs, TV.asList]
  ·rw [h, if_neg (by decide), if_pos h2]; simp [strs]
  ·rw [h, h2, if_neg (by decide), if_neg (by decide)]; simp [strs]
 have hll : (strs (low.map fun c => [c])).asList.length = t.length := by rw [zgq, List.length_map, hlm]
 have hp1 : ssplL.pre [TV.str low, TV.str []] := sspl_pre ⟨hal, by omega⟩
 have hp2 : sresvL.pre [TV.str low] := sresv_pre trivial
 refine ⟨fun h1 => ⟨by omega, fun hs => ⟨by omega, hp1, by omega, by rw [List.length_append, List.length_singleton]; omega, (hC _ (if_pos (by omega))).1 hs⟩, fun hs => ⟨hp2, fun h2 => ⟨by omega, by omega, ((hC _ (if_pos (by omega))).2 hs).1 h2⟩, fun h2 => ⟨by omega, ((hC _ (if_pos (by omega))).2 hs).2 h2⟩⟩⟩, fun h1 => ⟨fun h3 => ⟨by omega, fun hs => ⟨by omega, hp1, by omega, by rw [List.length_append, List.length_singleton]; omega, (hC [cwd 3] (by rw [if_neg (by omega), if_pos (by omega)])).1 hs⟩, fun hs => ⟨hp2, fun h2 => ⟨by omega, by omega, ((hC [cwd 3] (by rw [if_neg (by omega), if_pos (by omega)])).2 hs).1 h2⟩, fun h2 => ⟨by omega, ((hC [cwd 3] (by rw [if_neg (by omega), if_pos (by omega)])).2 hs).2 h2⟩⟩⟩, fun h3 => ?_⟩⟩
 have hD := hC [] (by rw [if_neg (by omega), if_neg (by omega)])
 exact ⟨fun hs => ⟨by omega, hp1, by omega, by rw [List.length_append, List.length_singleton]; omega, hD.1 hs⟩, fun hs => ⟨hp2, fun h2 => ⟨by omega, by omega, (hD.2 hs).1 h2⟩, fun h2 => ⟨by omega, (hD.2 hs).2 h2⟩⟩⟩)) rfl
end Go.Proofs.YtlhagkbhojmjpaaGreatDoor
