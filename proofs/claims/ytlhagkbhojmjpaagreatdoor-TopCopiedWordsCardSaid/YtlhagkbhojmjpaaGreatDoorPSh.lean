/- Written by this repo's own program out of its texts. -/
import Derived.Test.YtlhagkbhojmjpaaGreatDoorPSg
set_option linter.unusedSimpArgs false
set_option linter.unusedVariables false
set_option linter.unusedSectionVars false
namespace Go.Proofs.YtlhagkbhojmjpaaGreatDoor
theorem tx_mem {l : List Gl} {c : UInt8} (h : c ∈ txG l) : ∃ x ∈ l, c ∈ x.s := List.mem_flatMap.1 h
theorem asc_tx {l : List Gl} (h : ∀ x ∈ l, kindG x = 1 ∨ kindG x = 2) : asc (txG l) := fun c hc => by
 obtain ⟨x, hx, hc⟩ := tx_mem hc
 have hk := h x hx
 obtain ⟨d, hs, hd⟩ := qu9 (g := x) (by omega)
 rw [hs] at hc
 obtain rfl := List.mem_singleton.1 hc
 rcases hd with ⟨_, h1⟩ | ⟨_, h1⟩ | ⟨_, h1⟩
 ·have := UInt8.le_iff_toNat_le.1 h1.2; simp at this; omega
 ·have := UInt8.le_iff_toNat_le.1 h1.2; simp at this; omega
 ·have := UInt8.le_iff_toNat_le.1 h1.2; simp at this; omega
theorem dgb_tx {l : List Gl} (h : ∀ x ∈ l, kindG x = 3) : ∀ c ∈ txG l, dgB c := fun c hc => by
 obtain ⟨x, hx, hc⟩ := tx_mem hc
 have hk := h x hx
 obtain ⟨d, hs, hd⟩ := qu9 (g := x) (by omega)
 rw [hs] at hc
 obtain rfl := List.mem_singleton.1 hc
 rcases hd with ⟨_, h1⟩ | ⟨_, h1⟩ | ⟨_, h1⟩
 ·omega
 ·omega
 ·exact h1
theorem piece_ok (st : Stg) (g : Gl) (t : List Gl) : pieceOk ((g :: t).take (quf st (g :: t))) := by
 have hr := (qvr st g t).1
 obtain ⟨n, hn⟩ : ∃ n, quf st (g :: t) = n + 1 := ⟨quf st (g :: t) - 1, by omega⟩
 rw [hn]
 have hc := qur st g t
 rw [hn] at hc
 show pieceOk (g :: t.take n)
 have e : g :: t.take n = (g :: t).take (n + 1) := rfl
 refine ⟨fun h => asc_tx ?_, fun h => dgb_tx ?_⟩
 ·rw [e]
  rcases h with h | h
  ·rw [if_pos (.inl h)] at hc
   rw [hc]
   intro x hx
   exact .inl ((qu7 _ _ _ x hx).trans h)
  ·rw [if_neg (by omega), if_pos h] at hc
   by_cases h1 : 1 < cntG 2 g.y (g :: t)
   ·rw [if_pos h1] at hc
    rw [hc]
    intro x hx
    exact .inr (qu7 _ _ _ x hx)
   ·rw [if_neg h1] at hc
    have : n = cntG 1 g.y t := by omega
    rw [this]
    intro x hx
    rw [List.take_succ_cons] at hx
    rcases List.mem_cons.1 hx with rfl | hx
    ·exact .inr h
    ·exact .inl (qu7 _ _ _ x hx)
 ·rw [e, hc, if_pos (.inr h)]
  intro x hx
  exact (qu7 _ _ _ x hx).trans h
theorem pc_eq (st : Stg) (l : List Gl) : pcN st.rep l = quf st l := by
 cases l with
 | nil => rfl
 | cons g t => rfl
theorem sty_get {y : Int} (h0 : 0 ≤ y) (h3 : y ≤ 3) : stylesT.asList.getD y.toNat (.int 0) = .str (styW y) := by
 obtain ⟨n, rfl⟩ : ∃ n : Nat, y = n := ⟨y.toNat, by omega⟩
 match n, h3 with
 | 0, _ => rfl
 | 1, _ => rfl
 | 2, _ => rfl
 | 3, _ => rfl
 | n + 4, h => omega
theorem gls_fold (l : List Gl) : TV.list (l.map glT) = glsT l := rfl
def SwI (l : List Gl) (xs : List TV) : Prop := ∃ i : Nat, xs = [.int i] ∧ i ≤ l.length
def Swm (l : List Gl) (xs : List TV) : Nat := l.length - (xs.getD 0 (.int 0)).asInt.toNat
def SxI (st : Stg) (T : List By) (xs : List TV) : Prop := ∃ (rest : List Gl) (f : Nat) (sy : Int) (b : Nat) (out : List By), xs = [glsT rest, .int sy, .int b, .bool false, strs out] ∧ rest.length ≤ f ∧ rest.length ≤ 10000 ∧ gooG rest ∧ b ≤ 3 ∧ out ++ qu1 st f rest sy b out.getLast? = T
def Sxm (xs : List TV) : Nat := (xs.getD 0 (.int 0)).asList.length
def swordsL : Law := ⟨fun ts => ∃ (l : List Gl) (r : Int) (dg : Bool) (sp : Bool) (rp : Int) (ct : Bool) (ce : Int), ts = [glsT l, .agg [.int r, .bool dg, .bool sp, .int rp, .bool ct, .int ce]] ∧ (gooG l ∧ l.length ≤ 10000), fun ts z₀ => ∀ (l : List Gl) (r : Int) (dg : Bool) (sp : Bool) (rp : Int) (ct : Bool) (ce : Int), ts = [glsT l, .agg [.int r, .bool dg, .bool sp, .int rp, .bool ct, .int ce]] → z₀ = strs (qu1 ⟨sp, dg, rp⟩ l.length l 0 0 none)⟩
theorem swords_pre {l : List Gl} {r : Int} {dg : Bool} {sp : Bool} {rp : Int} {ct : Bool} {ce : Int} (h : gooG l ∧ l.length ≤ 10000) : swordsL.pre [glsT l, .agg [.int r, .bool dg, .bool sp, .int rp, .bool ct, .int ce]] := ⟨l, r, dg, sp, rp, ct, ce, rfl, h⟩
theorem swords_fin {l : List Gl} {r : Int} {dg : Bool} {sp : Bool} {rp : Int} {ct : Bool} {ce : Int} {z₀ : TV} (h : z₀ = strs (qu1 ⟨sp, dg, rp⟩ l.length l 0 0 none)) : swordsL.post [glsT l, .agg [.int r, .bool dg, .bool sp, .int rp, .bool ct, .int ce]] z₀ := fun l₁ r₁ dg₁ sp₁ rp₁ ct₁ ce₁ e => by
 simp only [qy, zzx] at e; obtain ⟨rfl, rfl, rfl, rfl, rfl, rfl, rfl⟩ := e
 exact h
theorem swords_all {l : List Gl} {r : Int} {dg : Bool} {sp : Bool} {rp : Int} {ct : Bool} {ce : Int} {Q : TV → Prop} : (∀ z₀, swordsL.post [glsT l, .agg [.int r, .bool dg, .bool sp, .int rp, .bool ct, .int ce]] z₀ → Q z₀) ↔ Q (strs (qu1 ⟨sp, dg, rp⟩ l.length l 0 0 none)) := ⟨fun h => h _ (swords_fin rfl), fun h z₀ hr => by rw [hr _ _ _ _ _ _ _ rfl]; exact h⟩
theorem swords_c (k : Nat) : Contract Tryz.prog (mkEnv globT []) gtabU (qs2 k) swordsL.pre swordsL.post := Contract.env (Γ := mkEnv globT [checkL, svocL, skindL, spieceL, sspokenL]) (contract_spokentext_Words (fun _ => rfl) (fun s hs => by
  simp only [cx_spokentext_Words, List.mem_cons, List.not_mem_nil, or_false] at hs
  rcases hs with rfl | rfl | rfl | rfl | rfl
  ·exact Contract.inEnv rfl (check_c 0) rfl
  ·exact Contract.inEnv rfl (svoc_c 1) rfl
  ·exact Contract.inEnv rfl (skind_c 2) rfl
  ·exact Contract.inEnv rfl (spiece_c 3) rfl
  ·exact Contract.inEnv rfl (sspoken_c 4) rfl) k (by
 rintro ts hl ⟨l, r, dg, sp, rp, ct, ce, rfl, hp⟩
 have hfin : ∀ z₀ : TV, z₀ = strs (qu1 ⟨sp, dg, rp⟩ l.length l 0 0 none) → swordsL.post [glsT l, .agg [.int r, .bool dg, .bool sp, .int rp, .bool ct, .int ce]] z₀ := fun z₀ hz₀ => swords_fin hz₀
 generalize swordsL.post [glsT l, .agg [.int r, .bool dg, .bool sp, .int rp, .bool ct, .int ce]] = R at hfin ⊢
 unfold tr_spokentext_Words
 obtain ⟨hg, hl⟩ := hp
 have htx := tx_len16 hg
 have hsb := (speak_bd ⟨sp, dg, rp⟩ l.length l 0 0 none hg).1
 simp only [Tree.den, E.den, P1.den, P2.den, P3.den, TV.cell, ne_eq, forall_eq, Int.reduceToNat, exists_eq_left', qz]
 refine ⟨SwI l, Swm l, ⟨0, rfl, by omega⟩, ?_⟩
 rintro xs _ ⟨i, rfl, hi⟩
 have ew : IntKind.wrap .i64 ((i : Int) + 1) = ((i + 1 : Nat) : Int) := by rw [wrap_i64 (by omega) (by omega)]; omega
 simp only [List.getD_cons_zero, zac, ew, Int.toNat_natCast, zaw, List.length_map, List.cons_append, List.nil_append, List.getD_cons_succ]
 refine ⟨fun hlt => ?_, fun hn => ?_⟩
 ·have hlt : i < l.length := by omega
  rw [zi7 hlt]
  obtain ⟨hc, hy0, hy3, _⟩ := hg _ (gg_mem hlt)
  have hcl := clus_len hc
  generalize gg l i = g at hc hy0 hy3 hcl
  simp only [glT, zae, List.getD_cons_zero, List.getD_cons_succ, zad, zac, z93]
  refine ⟨by omega, by omega, fun h => absurd h (by omega), fun _ => ⟨fun h => absurd h (by omega), fun _ => ⟨qa2 (by omega), fun h => absurd hc h, fun _ => ⟨⟨i + 1, rfl, by omega⟩, ?_⟩⟩⟩⟩
  simp only [Swm, List.getD_cons_zero, zac]; omega
 simp only [svoc_all]
 clear hi hn ew
 refine ⟨svoc_pre, SxI ⟨sp, dg, rp⟩ (qu1 ⟨sp, dg, rp⟩ l.length l 0 0 none), Sxm, ⟨l, l.length, 0, 0, [], rfl, Nat.le_refl _, hl, hg, by omega, rfl⟩, ?_⟩
 generalize qu1 ⟨sp, dg, rp⟩ l.length l 0 0 none = T at hfin hsb ⊢
 rintro xs _ ⟨rest, f, sy, b, out, rfl, hf, hrl, hrg, hb3, hT⟩
 cases rest with
 | nil =>
  have e0 : ∀ x, qu1 ⟨sp, dg, rp⟩ f [] sy b x = [] := fun x => by cases f <;> rfl
  rw [e0, List.append_nil] at hT
  subst hT
  refine ⟨fun h => absurd h (by show ¬ (0 : Int) < ((0 : Nat) : Int); omega), fun _ => hfin _ rfl⟩
 | cons g t =>
  obtain ⟨f, rfl⟩ : ∃ f', f = f' + 1 := ⟨f - 1, by rw [List.length_cons] at hf; omega⟩
  obtain ⟨hc, hy0, hy3, hne⟩ := hrg _ (.head _)
  have hlen : (g :: t).length = t.length + 1 := rfl
  have hpr := qvr ⟨sp, dg, rp⟩ g t
  have hpk := piece_ok ⟨sp, dg, rp⟩ g t
  have hpc := pc_eq ⟨sp, dg, rp⟩ (g :: t)
  dsimp only at hpc
  unfold qu1 at hT
  dsimp only at hT
  simp only [spiece_all, List.getD_cons_zero, List.getD_cons_succ, List.cons_append, List.nil_append, zac, Int.toNat_natCast, zaw, List.length_map, hpc]
  obtain ⟨n, hn⟩ : ∃ n, n = quf ⟨sp, dg, rp⟩ (g :: t) := ⟨_, rfl⟩
  rw [← hn] at hpr hpk hT ⊢
  refine ⟨fun _ => ⟨spiece_pre ⟨hrg, List.cons_ne_nil _ _, by omega⟩, fun xs => xs = [.bool false], ?_, ?_⟩, fun h => absurd h (by omega)⟩
  ·refine ⟨fun _ => rfl, fun _ => ⟨by omega, fun _ => rfl, fun h => ?_⟩⟩
   rw [gls_zero] at h
   exact absurd h hne
  ·rintro xs _ rfl
   obtain ⟨P, hP⟩ : ∃ P, P = (g :: t).take n := ⟨_, rfl⟩
   have hs0 : List.take (n - 0) (List.drop 0 (List.map glT (g :: t))) = List.map glT P := by rw [hP, List.drop_zero, Nat.sub_zero, List.map_take]
   have hs1 : List.take ((g :: t).length - n) (List.drop n (List.map glT (g :: t))) = List.map glT ((g :: t).drop n) := by
    rw [← List.map_drop, List.take_of_length_le]
    rw [List.length_map, List.length_drop]; omega
   have hP0 : (List.map glT P).getD 0 (.int 0) = glT g := by
    obtain ⟨m, rfl⟩ : ∃ m, n = m + 1 := ⟨n - 1, by omega⟩
    rw [hP]; rfl
   have hPl : P.length = n := by rw [hP, List.length_take]; omega
   have hPg : gooG P := fun x hx => hrg x (List.mem_of_mem_take (by rw [← hP]; exact hx))
   have hPn : P ≠ [] := fun e => by rw [e] at hPl; simp at hPl; omega
   rw [← hP] at hpk hT
   have hw0 := (spoken_bd ⟨sp, dg, rp⟩ P hPg).2.2 hPn
   simp only [hs0, hs1, hP0, gls_fold, List.length_map, hPl, glT, zae, List.getD_cons_zero, List.getD_cons_succ, zad, zac, zab, skind_all, sspoken_all, List.cons_append, List.nil_append, zbc]
   obtain ⟨w, hw⟩ : ∃ w, w = quu ⟨sp, dg, rp⟩ P := ⟨_, rfl⟩
   rw [← hw] at hT hw0 ⊢
   clear hw
   refine ⟨fun h => (by cases h), fun _ => ⟨by omega, by omega, ?_⟩⟩
   have hst : (mkEnv globT [checkL, svocL, skindL, spieceL, sspokenL]).glob 3 = stylesT := rfl
   have hs4 : stylesT.asList.length = 4 := rfl
   have hkk : kindG ⟨g.s, g.w, g.y⟩ = kindG g := rfl
   obtain ⟨w0, wt, rfl⟩ : ∃ w0 wt, w = w0 :: wt := by
    cases w with
    | nil => exact absurd rfl hw0
    | cons a b => exact ⟨a, b, rfl⟩
   have hh : (w0 :: wt).headD [] = w0 := rfl
   have hm0 : ((List.map TV.str (w0 :: wt)).getD 0 (.int 0)).asStr = w0 := rfl
   rw [hh] at hT
   simp only [hst, hs4, hkk, hm0, mget_voc, sty_get hy0 hy3, zab]
   obtain ⟨C, hC⟩ : ∃ C, C = preW g.y sy (kindG g) b w0 out.getLast? := ⟨_, rfl⟩
   rw [← hC] at hT
   have hLen : out.length + C.length + (w0 :: wt).length ≤ 10000000 := by
    have := congrArg List.length hT
    simp only [List.length_append] at this
    omega
   have hkz := kind_cases g
   unfold preW at hC
   refine ⟨fun xs => xs = [.int g.y, .int (kindG g), .bool false, strs (out ++ C ++ (w0 :: wt))], ⟨by omega, skind_pre trivial, sspoken_pre ⟨hPn, hPg, hpk, by omega⟩, by omega, fun hy => ?_, fun hy => ?_⟩, ?_⟩
   ·rw [if_pos hy] at hC
    subst hC
    rw [List.length_singleton] at hLen
    have e : List.map TV.str out ++ [TV.str (styW g.y)] ++ List.map TV.str (w0 :: wt) = List.map TV.str (out ++ [styW g.y] ++ (w0 :: wt)) := by simp
    rw [e]
    refine ⟨by omega, by simp, by omega, by omega, by rw [List.length_append, List.length_map, List.length_singleton]; omega, by rw [List.length_map, List.length_append, List.length_append, List.length_singleton]; omega, rfl⟩
   ·rw [if_neg (fun k => k hy)] at hC
    subst hy
    dsimp only
    have eA : List.map TV.str out ++ [TV.str [106, 111, 105, 110, 101, 100]] ++ List.map TV.str (w0 :: wt) = List.map TV.str (out ++ [cwd 1] ++ (w0 :: wt)) := by rw [List.map_append, List.map_append]; rfl
    have eB : List.map TV.str out ++ List.map TV.str (w0 :: wt) = List.map TV.str (out ++ [] ++ (w0 :: wt)) := by rw [List.append_nil, List.map_append]
    have eL : (List.map TV.str out ++ [TV.str [106, 111, 105, 110, 101, 100]]).length = out.length + 1 := by rw [List.length_append, List.length_map]; rfl
    rw [eA, eB, eL]
    have hA : C = [cwd 1] → ((out.length + 1 : Nat) : Int) ≤ 1099511627776 ∧ (((List.map TV.str (out ++ [cwd 1] ++ (w0 :: wt))).length : Nat) : Int) ≤ 1099511627776 ∧ [TV.int g.y, TV.int (kindG g), TV.bool false, TV.list (List.map TV.str (out ++ [cwd 1] ++ (w0 :: wt)))] = [TV.int g.y, TV.int (kindG g), TV.bool false, strs (out ++ C ++ (w0 :: wt))] := fun h => by
     subst h
     rw [List.length_singleton] at hLen
     exact ⟨by omega, by rw [List.length_map, List.length_append, List.length_append, List.length_singleton]; omega, rfl⟩
    have hB : C = [] → (((List.map TV.str (out ++ [] ++ (w0 :: wt))).length : Nat) : Int) ≤ 1099511627776 ∧ [TV.int g.y, TV.int (kindG g), TV.bool false, TV.list (List.map TV.str (out ++ [] ++ (w0 :: wt)))] = [TV.int g.y, TV.int (kindG g), TV.bool false, strs (out ++ C ++ (w0 :: wt))] := fun h => by
     subst h
     rw [List.length_nil] at hLen
     exact ⟨by rw [List.length_map, List.length_append, List.length_append, List.length_nil]; omega, rfl⟩
    have hN : ¬ (kindG g ≠ 0 ∧ b ≠ 0) → (0 < ((out.length : Nat) : Int) → 0 < (((w0 :: wt).length : Nat) : Int) ∧ (isNum w0 = true → 0 ≤ IntKind.wrap .i64 ((out.length : Nat) - 1 : Int) ∧ IntKind.wrap .i64 ((out.length : Nat) - 1 : Int) < ((out.length : Nat) : Int) ∧ (isNum ((List.map TV.str out).getD (IntKind.wrap .i64 ((out.length : Nat) - 1 : Int)).toNat (.int 0)).asStr = true → C = [cwd 1]) ∧ (isNum ((List.map TV.str out).getD (IntKind.wrap .i64 ((out.length : Nat) - 1 : Int)).toNat (.int 0)).asStr = false → C = [])) ∧ (isNum w0 = false → C = [])) ∧ (¬ 0 < ((out.length : Nat) : Int) → C = []) := fun hk0 => by
     rw [if_neg hk0] at hC
     rcases List.eq_nil_or_concat out with rfl | ⟨o, x, rfl⟩
     ·exact ⟨fun h => absurd h (by decide), fun _ => hC⟩
     ·rw [List.concat_eq_append] at *
      rw [List.getLast?_concat] at hC
      have hol : (o ++ [x]).length = o.length + 1 := by rw [List.length_append, List.length_singleton]
      have e1 : IntKind.wrap .i64 (((o ++ [x]).length : Nat) - 1 : Int) = (o.length : Int) := by rw [hol, wrap_i64 (by omega) (by omega)]; omega
      have e2 : ((List.map TV.str (o ++ [x])).getD ((o.length : Int)).toNat (.int 0)).asStr = x := by
       rw [Int.toNat_natCast, List.getD_eq_getElem?_getD, List.getElem?_map, List.getElem?_append_right (Nat.le_refl _), Nat.sub_self]; rfl
      rw [e1, e2]
      dsimp only at hC
      refine ⟨fun _ => ⟨by show (0 : Int) < ((wt.length + 1 : Nat) : Int); omega, fun h1 => ⟨by omega, by omega, fun h2 => ?_, fun h2 => ?_⟩, fun h1 => ?_⟩, fun h => absurd h (by omega)⟩
      ·rw [hC, if_pos ⟨h1, h2⟩]
      ·rw [hC, if_neg (fun k => by rw [h2] at k; exact absurd k.2 (by decide))]
      ·rw [hC, if_neg (fun k => by rw [h1] at k; exact absurd k.1 (by decide))]
    have hK : kindG g ≠ 0 ∧ b ≠ 0 → C = [cwd 1] := fun h => by rw [hC, if_pos h]
    have hF : ¬ (kindG g ≠ 0 ∧ b ≠ 0) → _ := fun h => (And.intro (fun h0 => (And.intro ((hN h).1 h0).1 (And.intro (fun h1 => (And.intro (((hN h).1 h0).2.1 h1).1 (And.intro (((hN h).1 h0).2.1 h1).2.1 (And.intro (fun h2 => hA ((((hN h).1 h0).2.1 h1).2.2.1 h2)) (fun h2 => hB ((((hN h).1 h0).2.1 h1).2.2.2 h2)))))) (fun h1 => hB (((hN h).1 h0).2.2 h1))))) (fun h0 => hB ((hN h).2 h0)))
    exact ⟨fun hk => ⟨fun hb => ⟨fun _ => hA (hK ⟨by omega, by omega⟩), fun h => (by cases h)⟩, fun hb => hF (by omega)⟩, fun hk => hF (by omega)⟩
   ·rintro ys _ rfl
    refine ⟨by omega, by omega, ⟨(g :: t).drop n, f, g.y, kindG g, out ++ C ++ (w0 :: wt), rfl, by rw [List.length_drop]; omega, by rw [List.length_drop]; omega, fun x hx => hrg x (List.mem_of_mem_drop hx), by omega, ?_⟩, ?_⟩
    ·rw [← hT, List.append_assoc out C, List.getLast?_append (l := out), List.append_assoc out]
    ·simp only [Sxm, List.getD_cons_zero, zbo, List.length_drop]; omega)) rfl
end Go.Proofs.YtlhagkbhojmjpaaGreatDoor
