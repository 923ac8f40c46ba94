/- Written by this repo's own program out of its texts. -/
import Derived.Test.YtlhagkbhojmjpaaGreatDoorPSf
set_option linter.unusedSimpArgs false
set_option linter.unusedVariables false
set_option linter.unusedSectionVars false
namespace Go.Proofs.YtlhagkbhojmjpaaGreatDoor
def pieceOk (l : List Gl) : Prop := match l with
 | [] => False
 | g :: t => (kindG g = 1 ∨ kindG g = 2 → asc (txG (g :: t))) ∧ (kindG g = 3 → ∀ c ∈ txG (g :: t), dgB c)
theorem txG_snoc (l : List Gl) (g : Gl) : txG (l ++ [g]) = txG l ++ g.s := by unfold txG; rw [List.flatMap_append, List.flatMap_singleton]
theorem gtake {l : List Gl} {i : Nat} (h : i < l.length) : l.take (i + 1) = l.take i ++ [gg l i] := by
 unfold gg
 rw [List.take_succ_eq_append_getElem h, List.getD_eq_getElem?_getD, List.getElem?_eq_getElem h]; rfl
theorem gg_mem {l : List Gl} {i : Nat} (h : i < l.length) : gg l i ∈ l := by
 unfold gg
 rw [List.getD_eq_getElem?_getD, List.getElem?_eq_getElem h]
 exact List.getElem_mem _
theorem tx_len16 : ∀ {l : List Gl}, gooG l → (txG l).length ≤ 16 * l.length
 | [], _ => Nat.zero_le _
 | g :: l, h => by
  have h1 := clus_len (h g (.head _)).1
  have h2 := tx_len16 (l := l) fun x hx => h x (.tail _ hx)
  show (g.s ++ txG l).length ≤ _
  rw [List.length_append, List.length_cons]; omega
def SpI (l : List Gl) (xs : List TV) : Prop := ∃ i : Nat, xs = [.str (txG (l.take i)), .int i] ∧ i ≤ l.length
def Spm (l : List Gl) (xs : List TV) : Nat := l.length - (xs.getD 1 (.int 0)).asInt.toNat
def sspokenL : Law := ⟨fun ts => ∃ (l : List Gl) (r : Int) (dg : Bool) (sp : Bool) (rp : Int) (ct : Bool) (ce : Int), ts = [glsT l, .agg [.int r, .bool dg, .bool sp, .int rp, .bool ct, .int ce]] ∧ (l ≠ [] ∧ gooG l ∧ pieceOk l ∧ l.length ≤ 10000), fun ts z₀ => ∀ (l : List Gl) (r : Int) (dg : Bool) (sp : Bool) (rp : Int) (ct : Bool) (ce : Int), ts = [glsT l, .agg [.int r, .bool dg, .bool sp, .int rp, .bool ct, .int ce]] → z₀ = strs (quu ⟨sp, dg, rp⟩ l)⟩
theorem sspoken_pre {l : List Gl} {r : Int} {dg : Bool} {sp : Bool} {rp : Int} {ct : Bool} {ce : Int} (h : l ≠ [] ∧ gooG l ∧ pieceOk l ∧ l.length ≤ 10000) : sspokenL.pre [glsT l, .agg [.int r, .bool dg, .bool sp, .int rp, .bool ct, .int ce]] := ⟨l, r, dg, sp, rp, ct, ce, rfl, h⟩
theorem q4n {l : List Gl} {r : Int} {dg : Bool} {sp : Bool} {rp : Int} {ct : Bool} {ce : Int} {z₀ : TV} (h : z₀ = strs (quu ⟨sp, dg, rp⟩ l)) : sspokenL.post [glsT l, .agg [.int r, .bool dg, .bool sp, .int rp, .bool ct, .int ce]] z₀ := fun l₁ r₁ dg₁ sp₁ rp₁ ct₁ ce₁ e => by
 simp only [qy, zzx] at e; obtain ⟨rfl, rfl, rfl, rfl, rfl, rfl, rfl⟩ := e
 exact h
theorem sspoken_all {l : List Gl} {r : Int} {dg : Bool} {sp : Bool} {rp : Int} {ct : Bool} {ce : Int} {Q : TV → Prop} : (∀ z₀, sspokenL.post [glsT l, .agg [.int r, .bool dg, .bool sp, .int rp, .bool ct, .int ce]] z₀ → Q z₀) ↔ Q (strs (quu ⟨sp, dg, rp⟩ l)) := ⟨fun h => h _ (q4n rfl), fun h z₀ hr => by rw [hr _ _ _ _ _ _ _ rfl]; exact h⟩
theorem sspoken_c (k : Nat) : Contract Tryz.prog (mkEnv globT []) gtabU (qqp k) sspokenL.pre sspokenL.post := Contract.env (Γ := mkEnv globT [skindL, snumbL, slettersL, sdigitsL, ssingleL, sconcatL]) (contract_spokentext_spoken (fun _ => rfl) (fun s hs => by
  simp only [cx_spokentext_spoken, List.mem_cons, List.not_mem_nil, or_false] at hs
  rcases hs with rfl | rfl | rfl | rfl | rfl | rfl
  ·exact Contract.inEnv rfl (skind_c 0) rfl
  ·exact Contract.inEnv rfl (snumb_c 1) rfl
  ·exact Contract.inEnv rfl (sletters_c 2) rfl
  ·exact Contract.inEnv rfl (sdigits_c 3) rfl
  ·exact Contract.inEnv rfl (ssingle_c 4) rfl
  ·exact Contract.inEnv rfl (sconcat_c 5) rfl) k (by
 rintro ts hl ⟨l, r, dg, sp, rp, ct, ce, rfl, hp⟩
 have hfin : ∀ z₀ : TV, z₀ = strs (quu ⟨sp, dg, rp⟩ l) → sspokenL.post [glsT l, .agg [.int r, .bool dg, .bool sp, .int rp, .bool ct, .int ce]] z₀ := fun z₀ hz₀ => q4n hz₀
 generalize sspokenL.post [glsT l, .agg [.int r, .bool dg, .bool sp, .int rp, .bool ct, .int ce]] = R at hfin ⊢
 unfold tr_spokentext_spoken
 obtain ⟨h0, hg, hk, hl⟩ := hp
 have htx := tx_len16 hg
 simp only [Tree.den, E.den, P1.den, P2.den, P3.den, TV.cell, ne_eq, forall_eq, Int.reduceToNat, exists_eq_left', qz]
 refine ⟨SpI l, Spm l, ⟨0, rfl, by omega⟩, ?_⟩
 rintro xs _ ⟨i, rfl, hi⟩
 have ew : IntKind.wrap .i64 ((i : Int) + 1) = ((i + 1 : Nat) : Int) := by rw [wrap_i64 (by omega) (by omega)]; omega
 simp only [Tree.den, E.den, P1.den, P2.den, P3.den, TV.cell, ne_eq, forall_eq, Int.reduceToNat, exists_eq_left', qz, ew, Int.toNat_natCast, zaw, List.length_map]
 refine ⟨fun hlt => ?_, fun hn => ?_⟩
 ·have hlt : i < l.length := by omega
  rw [zi7 hlt]
  simp only [glT, zae, List.getD_cons_zero, zad]
  rw [← txG_snoc, ← gtake hlt]
  have h16 := tx_len16 (l := l.take (i + 1)) fun x hx => hg x (List.mem_of_mem_take hx)
  rw [List.length_take] at h16
  refine ⟨by omega, by omega, by omega, ⟨i + 1, rfl, by omega⟩, ?_⟩
  simp only [Spm, List.getD_cons_zero, List.getD_cons_succ, zac]; omega
 obtain rfl : i = l.length := by omega
 rw [List.take_length]
 obtain ⟨g, t, rfl⟩ : ∃ g t, l = g :: t := by
  cases l with
  | nil => exact absurd rfl h0
  | cons g t => exact ⟨g, t, rfl⟩
 have hlen : (g :: t).length = t.length + 1 := rfl
 rw [gls_zero]
 simp only [glT, zae, List.getD_cons_zero, List.getD_cons_succ, zad, zac, zab, skind_all, sletters_all, sdigits_all, ssingle_all, snumb_all]
 have hkk : kindG ⟨g.s, g.w, g.y⟩ = kindG g := rfl
 have hcg := (hg g (.head _)).1
 have hkz := kind_cases g
 obtain ⟨hk1, hk2⟩ := hk
 have hS : TV.list [strs (qub (((g :: t).length : Nat) : Int).toNat), TV.list [TV.str [116, 105, 109, 101, 115]], strs (qul g.s)] = strss [qub (g :: t).length, [cwd 6], qul g.s] := rfl
 have h60 := (single_bd hcg).1
 have h14 := wordsW_len (g :: t).length
 have hSp : sconcatL.pre [strss [qub (g :: t).length, [cwd 6], qul g.s]] := by
  refine sconcat_pre ⟨List.cons_ne_nil _ _, fun x hx => ?_, by show 3 ≤ 100; omega, ?_⟩
  ·simp only [List.mem_cons, List.not_mem_nil, or_false] at hx
   rcases hx with rfl | rfl | rfl
   ·exact qu5 _
   ·exact List.cons_ne_nil _ _
   ·exact single_ne hcg
  ·simp only [List.flatten_cons, List.flatten_nil, List.length_append, List.length_nil, List.length_cons] at h14 ⊢
   omega
 rw [hkk, hS]
 simp only [sconcat_all]
 unfold quu at hfin
 dsimp only at hfin
 have hlet : kindG g = 1 ∨ kindG g = 2 → slettersL.pre [TV.str (txG (g :: t)), TV.agg [TV.int r, TV.bool dg, TV.bool sp, TV.int rp, TV.bool ct, TV.int ce]] ∧ R (strs (quw (txG (g :: t)) sp)) := fun h => ⟨sletters_pre ⟨hk1 h, by omega⟩, hfin _ (by rw [if_pos h])⟩
 have hnz : txG (g :: t) ≠ [] := by
  obtain ⟨c, ms, hr, _, _, hs, _⟩ := clus hcg
  have h1 := q4d (c :: ms)
  rw [← hs, List.length_cons] at h1
  intro e
  have : (g.s ++ txG t) = [] := e
  have := (List.append_eq_nil_iff.1 this).1
  rw [this] at h1
  simp at h1
 have hone : ∀ P : Prop, P → ssingleL.pre [TV.agg [TV.str g.s, TV.bool g.w, TV.int g.y]] ∧ P := fun P h => ⟨ssingle_pre hcg, h⟩
 refine ⟨by omega, skind_pre trivial, fun h => hlet (by omega), fun h1 => ⟨fun h => hlet (by omega), fun h2 => ⟨fun h => ⟨sdigits_pre ⟨hnz, hk2 (by omega), by omega⟩, hfin _ (by rw [if_neg (by omega), if_pos (by omega)])⟩, fun h3 => ⟨fun h4 => ⟨by omega, hone _ (hfin _ ?_)⟩, fun h4 => ⟨by omega, ?_⟩⟩⟩⟩⟩
 ·rw [if_neg (by omega), if_neg (by omega), if_pos (List.length_eq_zero_iff.1 (by omega))]
 ·have hn : snumbL.pre [TV.int (((g :: t).length : Nat) : Int)] := snumb_pre ⟨by omega, by omega⟩
  have hR : R (strs [qub (g :: t).length, [cwd 6], qul g.s].flatten) := hfin _ (by
   rw [if_neg (by omega), if_neg (by omega), if_neg (fun e => h4 (by rw [hlen, e]; rfl))]
   simp [List.flatten])
  exact ⟨⟨hn, hone _ ⟨hSp, hR⟩, hone _ ⟨hSp, hR⟩⟩, hn, hone _ ⟨hSp, hR⟩⟩)) rfl
end Go.Proofs.YtlhagkbhojmjpaaGreatDoor
