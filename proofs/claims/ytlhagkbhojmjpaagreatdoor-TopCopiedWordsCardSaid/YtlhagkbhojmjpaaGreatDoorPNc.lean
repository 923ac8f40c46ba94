/- Written by this repo's own program out of its texts. -/
import Derived.Test.YtlhagkbhojmjpaaGreatDoorPPlb
import Derived.Test.YtlhagkbhojmjpaaGreatDoorPN1
import Derived.Test.YtlhagkbhojmjpaaGreatDoorPSl
set_option linter.unusedSimpArgs false
set_option linter.unusedVariables false
set_option linter.unusedSectionVars false
namespace Go.Proofs.YtlhagkbhojmjpaaGreatDoor
theorem voc_get {i : Nat} (h : i < 32) : (vocabL.map TV.str).getD i (.int 0) = .str (vw i) := zvn vocabL h
theorem voc_len : vocabL.length = 32 := rfl
theorem strs_app (a b : List By) : TV.list (a.map TV.str ++ b.map TV.str) = strs (a ++ b) := by unfold strs; rw [List.map_append]
theorem tdN {k : Nat} (m : Nat) (h : k ≤ 4000000000) : IntKind.wrap .i64 ((k : Int).tdiv (m : Int)) = ((k / m : Nat) : Int) := by
 have e : (k : Int).tdiv (m : Int) = ((k / m : Nat) : Int) := rfl
 have hd := Nat.div_le_self k m
 rw [e]
 generalize k / m = q at hd
 exact wrap_i64 (by omega) (by omega)
def nvocL : Law := ⟨fun ts => ts = [], fun ts z₀ => ts = [] → z₀ = strs vocabL⟩
theorem nvoc_pre : nvocL.pre [] := rfl
theorem nvoc_fin {z₀ : TV} (h : z₀ = strs vocabL) : nvocL.post [] z₀ := fun _ => h
theorem nvoc_all {Q : TV → Prop} : (∀ z₀, nvocL.post [] z₀ → Q z₀) ↔ Q (strs vocabL) := ⟨fun h => h _ fun _ => rfl, fun h z₀ hr => by rw [hr rfl]; exact h⟩
theorem nvoc_c (k : Nat) : Contract Tryz.prog (mkEnv globT []) gtabU (qqf k) nvocL.pre nvocL.post := Contract.env (Γ := mkEnv globT []) (qt6 (fun _ => rfl) (fun s hs => by
  cases hs) k (by
 rintro ts hl rfl
 have hfin : ∀ z₀ : TV, z₀ = strs vocabL → nvocL.post [] z₀ := fun z₀ hz₀ => nvoc_fin hz₀
 generalize nvocL.post [] = R at hfin ⊢
 unfold tr_numwords_Vocabulary
 simp only [Tree.den, E.den, P1.den, P2.den, P3.den, TV.cell, ne_eq, forall_eq, Int.reduceToNat, exists_eq_left', qz]
 exact hfin _ rfl)) rfl
def nsmallL : Law := ⟨fun ts => ∃ (n : Int), ts = [.int n] ∧ (1 ≤ n ∧ n ≤ 999), fun ts z₀ => ∀ (n : Int), ts = [.int n] → z₀ = strs ((qu8 n.toNat).map vw)⟩
theorem nsmall_pre {n : Int} (h : 1 ≤ n ∧ n ≤ 999) : nsmallL.pre [.int n] := ⟨n, rfl, h⟩
theorem nsmall_fin {n : Int} {z₀ : TV} (h : z₀ = strs ((qu8 n.toNat).map vw)) : nsmallL.post [.int n] z₀ := fun n₁ e => by
 simp only [qy] at e; subst e
 exact h
theorem nsmall_all {n : Int} {Q : TV → Prop} : (∀ z₀, nsmallL.post [.int n] z₀ → Q z₀) ↔ Q (strs ((qu8 n.toNat).map vw)) := ⟨fun h => h _ (nsmall_fin rfl), fun h z₀ hr => by rw [hr _ rfl]; exact h⟩
theorem nsmall_c (k : Nat) : Contract Tryz.prog (mkEnv globT []) gtabU (qrc k) nsmallL.pre nsmallL.post := Contract.env (Γ := mkEnv globT [nvocL]) (contract_numwords_small (fun _ => rfl) (fun s hs => by
  simp only [cx_numwords_small, List.mem_cons, List.not_mem_nil, or_false] at hs
  rcases hs with rfl
  ·exact Contract.inEnv rfl (nvoc_c 0) rfl) k (by
 rintro ts hl ⟨n, rfl, hp⟩
 have hfin : ∀ z₀ : TV, z₀ = strs ((qu8 n.toNat).map vw) → nsmallL.post [.int n] z₀ := fun z₀ hz₀ => nsmall_fin hz₀
 generalize nsmallL.post [.int n] = R at hfin ⊢
 unfold tr_numwords_small
 obtain ⟨h1, h2⟩ := hp
 obtain ⟨k, rfl⟩ : ∃ k : Nat, n = k := ⟨n.toNat, by omega⟩
 rw [Int.toNat_natCast] at hfin
 have q1 : IntKind.wrap .i64 ((k : Int).tdiv 100) = ((k / 100 : Nat) : Int) := tdN 100 (by omega)
 have q2 : (k : Int).tmod 100 = ((k % 100 : Nat) : Int) := rfl
 have q3 : IntKind.wrap .i64 (((k % 100 : Nat) : Int).tdiv 10) = ((k % 100 / 10 : Nat) : Int) := tdN 10 (by omega)
 have q4 : IntKind.wrap .i64 (18 + ((k % 100 / 10 : Nat) : Int)) = ((18 + k % 100 / 10 : Nat) : Int) := by rw [wrap_i64 (by omega) (by omega)]; omega
 have q5 : ((k % 100 : Nat) : Int).tmod 10 = ((k % 100 % 10 : Nat) : Int) := rfl
 have q6 : IntKind.wrap .i64 ((k : Int).tdiv 10) = ((k / 10 : Nat) : Int) := tdN 10 (by omega)
 have q7 : IntKind.wrap .i64 (18 + ((k / 10 : Nat) : Int)) = ((18 + k / 10 : Nat) : Int) := by rw [wrap_i64 (by omega) (by omega)]; omega
 have q8 : (k : Int).tmod 10 = ((k % 10 : Nat) : Int) := rfl
 have key : ∀ l, l = qu8 k → R (.list (l.map fun i => .str (vw i))) := fun l hl => hfin _ (by rw [hl]; unfold strs; rw [List.map_map]; rfl)
 have g : ∀ i, i < 32 → (vocabL.map TV.str).getD i (.int 0) = .str (vw i) := fun i => voc_get
 simp only [Tree.den, E.den, P1.den, P2.den, P3.den, TV.cell, ne_eq, forall_eq, Int.reduceToNat, exists_eq_left', qz, nvoc_all, zbc, q1, q2, q3, q4, q5, q6, q7, q8, qv, qr, voc_len, List.cons_append, List.nil_append]
 have e28 : TV.str [104, 117, 110, 100, 114, 101, 100] = .str (vw 28) := rfl
 rw [e28]
 unfold qu8 at key
 refine ⟨nvoc_pre, fun c1 => ⟨by omega, by omega, by omega, fun c2 => ⟨by omega, by omega, by omega, fun c3 => ⟨by omega, by omega, by omega, ?_⟩, fun c3 => ?_⟩, fun c2 => ⟨fun c3 => ⟨by omega, by omega, by omega, ?_⟩, fun c3 => ?_⟩⟩, fun c1 => ⟨fun c2 => ⟨by omega, by omega, by omega, fun c3 => ⟨by omega, by omega, by omega, ?_⟩, fun c3 => ?_⟩, fun c2 => ⟨fun c3 => ⟨by omega, by omega, by omega, ?_⟩, fun c3 => ?_⟩⟩⟩
 ·rw [g _ (by omega), g _ (by omega), g _ (by omega)]
  exact key [k / 100, 28, 18 + k % 100 / 10, k % 100 % 10] (by rw [if_pos (by omega), if_pos (by omega), if_pos (by rw [if_pos (by omega)]; omega), if_pos (by omega), show k % 100 % 10 = k % 10 by omega]; rfl)
 ·rw [g _ (by omega), g _ (by omega)]
  exact key [k / 100, 28, 18 + k % 100 / 10] (by rw [if_pos (by omega), if_pos (by omega), if_neg (by rw [if_pos (by omega)]; omega)]; rfl)
 ·rw [g _ (by omega), g _ (by omega)]
  exact key [k / 100, 28, k % 100] (by rw [if_pos (by omega), if_neg (by omega), if_pos (by rw [if_neg (by omega)]; omega), if_neg (by omega)]; rfl)
 ·rw [g _ (by omega)]
  exact key [k / 100, 28] (by rw [if_pos (by omega), if_neg (by omega), if_neg (by rw [if_neg (by omega)]; omega)]; rfl)
 ·rw [g _ (by omega), g _ (by omega)]
  exact key [18 + k / 10, k % 10] (by rw [if_neg (by omega), if_pos (by omega), if_pos (by rw [if_pos (by omega)]; omega), if_pos (by omega), show k % 100 = k by omega]; rfl)
 ·rw [g _ (by omega)]
  exact key [18 + k / 10] (by rw [if_neg (by omega), if_pos (by omega), if_neg (by rw [if_pos (by omega)]; omega), show k % 100 = k by omega]; rfl)
 ·rw [g _ (by omega)]
  exact key [k] (by rw [if_neg (by omega), if_neg (by omega), if_pos (by rw [if_neg (by omega)]; omega), if_neg (by omega), show k % 100 = k by omega]; rfl)
 ·omega)) rfl
def nwT (n : Int) : TV := match wordsZ n with
 | some l => .agg [strs l, .int 0]
 | none => .agg [.list [], .int 2]
theorem nw_none {n : Int} (h : n < -999999999 ∨ 999999999 < n) : nwT n = .agg [.list [], .int 2] := by
 unfold nwT wordsZ; rw [if_pos h]
theorem nw_pos (k : Nat) (h : k ≤ 999999999) : nwT k = .agg [strs (qub k), .int 0] := by
 unfold nwT wordsZ; rw [if_neg (by omega), if_neg (by omega)]; rfl
theorem nw_neg (k : Nat) (h : k ≤ 999999999) (h0 : 0 < k) : nwT (-(k : Int)) = .agg [strs (vw 31 :: qub k), .int 0] := by
 unfold nwT wordsZ
 rw [if_neg (by omega), if_pos (by omega)]
 simp only [Int.natAbs_neg, Int.natAbs_natCast]
def grpW (n : Nat) (u : List By) : List By := if 0 < n then (qu8 n).map vw ++ u else []
theorem words_grp {k : Nat} (h : 0 < k) : qub k = grpW (k / 1000000) [vw 30] ++ (grpW (k % 1000000 / 1000) [vw 29] ++ grpW (k % 1000) []) := by
 unfold qub qvo
 rw [if_neg (by omega), List.map_append, List.map_append, List.append_assoc]
 have e : ∀ n u, (qus n u).map vw = grpW n (u.map vw) := by
  intro n u
  unfold qus grpW
  split
  ·rw [List.map_append]
  ·rfl
 rw [e, e, e]
 rfl
section
variable {Γ : CEnv} {R : TV → Prop} {ρ : List TV} {L : List (List TV → Prop)}
theorem dreq {b : E} {t : Tree} (h : (b.den Γ ρ).asBool = true) (k : t.den Γ R ρ L) : (Tree.req b t).den Γ R ρ L := ⟨h, k⟩
theorem dbr {b : E} {x y : Tree} (h : (b.den Γ ρ).asBool = true → x.den Γ R ρ L) (k : (b.den Γ ρ).asBool = false → y.den Γ R ρ L) : (Tree.br b x y).den Γ R ρ L := ⟨h, k⟩
theorem dret {e : E} (h : R (e.den Γ ρ)) : (Tree.ret e).den Γ R ρ L := h
theorem dcall {f : Nat} {args : List E} {t : Tree} (h : Γ.pre f (args.map (·.den Γ ρ))) (k : ∀ r, Γ.post f (args.map (·.den Γ ρ)) r → t.den Γ R (ρ ++ [r]) L) : (Tree.call f args t).den Γ R ρ L := ⟨h, k⟩
theorem den_var {d : Nat} (h : ρ.length = d) (r : TV) (xs : List TV) : (E.v d).den Γ (ρ ++ [r] ++ xs) = r := by
 subst h
 simp [E.den, List.getD]
end
def apE : E → E → E
 | .nil, x => x
 | a, x => .o2 .app a x
theorem apE_den {Γ : CEnv} {ρ : List TV} {a x : E} {l m : List By} (ha : a.den Γ ρ = strs l) (hx : x.den Γ ρ = strs m) : (apE a x).den Γ ρ = strs (l ++ m) := by
 have h2 : (E.o2 .app a x).den Γ ρ = strs (l ++ m) := by
  simp only [E.den, P2.den, ha, hx, zbc, strs_app]
 unfold apE
 split
 ·have e : strs [] = strs l := ha
  rw [qhv] at e
  rw [← e]; exact hx
 ·exact h2
theorem app_den {Γ : CEnv} {ρ : List TV} {a x : E} {l m : List By} (ha : a.den Γ ρ = strs l) (hx : x.den Γ ρ = strs m) : (E.o2 .app a x).den Γ ρ = strs (l ++ m) := by
 simp only [E.den, P2.den, ha, hx, zbc, strs_app]
def oneE (s : By) : E := .cons (.str s) .nil
theorem oneE_den {Γ : CEnv} {ρ : List TV} (s : By) : (oneE s).den Γ ρ = strs [s] := rfl
def fitE (e : E) (t : Tree) : Tree := .req (.o2 .lei (.o1 .len e) (.int 1099511627776)) t
def g3 (d : Nat) (p n : E) : Tree := .br (.o2 .lti (.int 0) (.o2 (.quo .i64) n (.int 1)))
 (.call 0 [.o2 (.quo .i64) n (.int 1)] (fitE (apE p (.v d)) (.ret (.o1 .agg (.cons (apE p (.v d)) (.cons (.int 0) .nil))))))
 (.ret (.o1 .agg (.cons p (.cons (.int 0) .nil))))
def gG (u : By) (m : Int) (next : Nat → E → E → Tree) (d : Nat) (p n : E) : Tree := .br (.o2 .lti (.int 0) (.o2 (.quo .i64) n (.int m)))
 (.call 0 [.o2 (.quo .i64) n (.int m)] (fitE (apE p (.v d)) (fitE (.o2 .app (apE p (.v d)) (oneE u)) (next (d + 1) (.o2 .app (apE p (.v d)) (oneE u)) (.o2 .rem n (.int m))))))
 (next d p n)
def g2 : Nat → E → E → Tree := gG [116, 104, 111, 117, 115, 97, 110, 100] 1000 g3
def g1 : Nat → E → E → Tree := gG [109, 105, 108, 108, 105, 111, 110] 1000000 g2
def trWords : Tree := .br (.o2 .lti (.v 0) (.int (-999999999))) (.ret (.o1 .agg (.cons .nil (.cons (.int 2) .nil))))
 (.br (.o2 .lti (.int 999999999) (.v 0)) (.ret (.o1 .agg (.cons .nil (.cons (.int 2) .nil))))
  (.br (.o2 .eqi (.v 0) (.int 0)) (.ret (.o1 .agg (.cons (oneE [122, 101, 114, 111]) (.cons (.int 0) .nil))))
   (.br (.o2 .lti (.v 0) (.int 0)) (fitE (oneE [109, 105, 110, 117, 115]) (g1 1 (oneE [109, 105, 110, 117, 115]) (.o1 (.neg .i64) (.v 0))))
    (g1 1 .nil (.v 0)))))
theorem fitE_den {Γ : CEnv} {R : TV → Prop} {ρ : List TV} {L : List (List TV → Prop)} {e : E} {t : Tree} {l : List By} (h : e.den Γ ρ = strs l) (hl : l.length ≤ 1000000) (k : t.den Γ R ρ L) : (fitE e t).den Γ R ρ L := by
 refine dreq ?_ k
 simp only [E.den, P1.den, P2.den, h, zgq, zac, zab, decide_eq_true_eq]
 omega
def GSays (T : Nat → E → E → Tree) (B K : Nat) (g : Nat → List By) (R : TV → Prop) : Prop := ∀ (ρ : List TV) (p n : E) (l : List By) (m : Nat), (∀ xs, p.den (mkEnv globT [nsmallL]) (ρ ++ xs) = strs l) → (∀ xs, n.den (mkEnv globT [nsmallL]) (ρ ++ xs) = .int m) → m ≤ B → l.length ≤ K → R (.agg [strs (l ++ g m), .int 0]) → (T ρ.length p n).den (mkEnv globT [nsmallL]) R ρ []
theorem q4e {Q : TV → Prop} {m : Nat} (h : Q (strs ((qu8 m).map vw))) : ∀ r, nsmallL.post [.int (m : Int)] r → Q r := nsmall_all.2 (by rw [Int.toNat_natCast]; exact h)
theorem g3_says (R : TV → Prop) : GSays g3 999 100 (fun m => grpW m []) R := by
 intro ρ p n l m hp hn hm hl hR
 have hp0 := hp []
 have hn0 := hn []
 rw [List.append_nil] at hp0 hn0
 have hq : IntKind.wrap .i64 ((m : Int).tdiv 1) = (m : Int) := (tdN 1 (by omega)).trans (by rw [Nat.div_one])
 have hsl := smallI_len m
 refine dbr (fun h => ?_) (fun h => ?_)
 ·simp only [E.den, P2.den, hn0, zac, hq, zab, decide_eq_true_eq] at h
  have hargs : (E.o2 (P2.quo .i64) n (.int 1)).den (mkEnv globT [nsmallL]) ρ = .int m := by
   simp only [E.den, P2.den, hn0, zac, hq]
  refine dcall ?_ ?_
  ·simp only [List.map_cons, List.map_nil, hargs, zah]
   exact nsmall_pre ⟨by omega, by omega⟩
  ·simp only [List.map_cons, List.map_nil, hargs, zag]
   refine q4e ?_
   have hap := apE_den (x := .v ρ.length) (hp [strs ((qu8 m).map vw)]) (by have := den_var (Γ := mkEnv globT [nsmallL]) (ρ := ρ) rfl (strs ((qu8 m).map vw)) []; rwa [List.append_nil] at this)
   refine fitE_den hap (by rw [List.length_append, List.length_map]; omega) (dret ?_)
   simp only [E.den, P1.den, hap, zaa]
   dsimp only at hR
   unfold grpW at hR
   rw [if_pos (by omega), List.append_nil] at hR
   exact hR
 ·simp only [E.den, P2.den, hn0, zac, hq, zab, decide_eq_false_iff_not] at h
  refine dret ?_
  simp only [E.den, P1.den, hp0, zaa]
  dsimp only at hR
  unfold grpW at hR
  rw [if_neg (by omega), List.append_nil] at hR
  exact hR
theorem gG_says {T : Nat → E → E → Tree} {B K : Nat} {g : Nat → List By} {R : TV → Prop} (hT : GSays T B (K + 5) g R) (hK : K ≤ 100) (u : By) (c : Nat) (hc : 1 ≤ c) (hc9 : c ≤ 1000000) (hB : c - 1 ≤ B) (hg : ∀ m, m < c → g (m % c) = g m) : GSays (gG u c T) (c * 999 + (c - 1)) K (fun m => grpW (m / c) [u] ++ g (m % c)) R := by
 intro ρ p n l m hp hn hm hl hR
 have hp0 := hp []
 have hn0 := hn []
 rw [List.append_nil] at hp0 hn0
 have hm9 : m ≤ 4000000000 := by
  have : c * 999 ≤ 1000000 * 999 := Nat.mul_le_mul_right _ hc9
  omega
 have hdiv : m / c ≤ 999 := by
  have h1 : m < c * 1000 := by omega
  have := (Nat.div_lt_iff_lt_mul (show 0 < c by omega)).2 (by rw [Nat.mul_comm]; exact h1)
  omega
 have hmod := Nat.mod_lt m (show c > 0 by omega)
 have hq : IntKind.wrap .i64 ((m : Int).tdiv (c : Int)) = ((m / c : Nat) : Int) := tdN c hm9
 have hsl := smallI_len (m / c)
 dsimp only at hR
 generalize hmc : m / c = q at hq hdiv hsl hR
 refine dbr (fun h => ?_) (fun h => ?_)
 ·simp only [E.den, P2.den, hn0, zac, hq, zab, decide_eq_true_eq] at h
  have hargs : (E.o2 (P2.quo .i64) n (.int c)).den (mkEnv globT [nsmallL]) ρ = .int (q : Int) := by
   simp only [E.den, P2.den, hn0, zac, hq]
  refine dcall ?_ ?_
  ·simp only [List.map_cons, List.map_nil, hargs, zah]
   exact nsmall_pre ⟨by omega, by omega⟩
  ·simp only [List.map_cons, List.map_nil, hargs, zag]
   refine q4e ?_
   have hap : ∀ xs, (apE p (.v ρ.length)).den (mkEnv globT [nsmallL]) (ρ ++ [strs ((qu8 q).map vw)] ++ xs) = strs (l ++ (qu8 q).map vw) := fun xs =>
    apE_den (by rw [List.append_assoc]; exact hp _) (den_var rfl _ xs)
   have hap2 : ∀ xs, (E.o2 .app (apE p (.v ρ.length)) (oneE u)).den (mkEnv globT [nsmallL]) (ρ ++ [strs ((qu8 q).map vw)] ++ xs) = strs (l ++ ((qu8 q).map vw ++ [u])) := fun xs => by
    have := app_den (hap xs) (oneE_den (Γ := mkEnv globT [nsmallL]) (ρ := ρ ++ [strs ((qu8 q).map vw)] ++ xs) u)
    rwa [List.append_assoc l] at this
   have h0 := hap []
   have h1 := hap2 []
   rw [List.append_nil] at h0 h1
   refine fitE_den h0 (by rw [List.length_append, List.length_map]; omega) (fitE_den h1 (by rw [List.length_append, List.length_append, List.length_map]; simp only [List.length_cons, List.length_nil]; omega) ?_)
   have := hT (ρ ++ [strs ((qu8 q).map vw)]) (.o2 .app (apE p (.v ρ.length)) (oneE u)) (.o2 .rem n (.int c)) (l ++ ((qu8 q).map vw ++ [u])) (m % c) hap2 (fun xs => by
    simp only [E.den, P2.den, List.append_assoc, hn, zac]
    rfl) (by omega) (by
     rw [List.length_append, List.length_append, List.length_map]; simp only [List.length_cons, List.length_nil]
     omega) (by
     unfold grpW at hR
     rw [if_pos (by omega)] at hR
     rw [List.append_assoc l]
     exact hR)
   rw [List.length_append] at this
   exact this
 ·simp only [E.den, P2.den, hn0, zac, hq, zab, decide_eq_false_iff_not] at h
  have hz : q = 0 := by omega
  have hlt : m < c := by
   rcases Nat.lt_or_ge m c with h1 | h1
   ·exact h1
   ·have := Nat.div_pos h1 (by omega); omega
  refine hT ρ p n l m hp hn (by omega) (by omega) ?_
  unfold grpW at hR
  rw [hz, if_neg (by omega), List.nil_append, hg m hlt] at hR
  exact hR
theorem g1_says (R : TV → Prop) : GSays g1 999999999 2 (fun m => grpW (m / 1000000) [vw 30] ++ (grpW (m % 1000000 / 1000) [vw 29] ++ grpW (m % 1000000 % 1000) [])) R :=
 gG_says (T := g2) (B := 999999) (K := 2) (gG_says (T := g3) (B := 999) (K := 7) (fun ρ p n l m h1 h2 h3 h4 => g3_says R ρ p n l m h1 h2 h3 (by omega)) (by omega) (vw 29) 1000 (by omega) (by omega) (by omega) (fun m h => by rw [Nat.mod_eq_of_lt h])) (by omega) (vw 30) 1000000 (by omega) (by omega) (by omega) (fun m h => by rw [Nat.mod_eq_of_lt h])
def nwordsL : Law := ⟨fun ts => ∃ (n : Int), ts = [.int n] ∧ (True), fun ts z₀ => ∀ (n : Int), ts = [.int n] → z₀ = nwT n⟩
theorem nwords_pre {n : Int} (h : True) : nwordsL.pre [.int n] := ⟨n, rfl, h⟩
theorem nwords_fin {n : Int} {z₀ : TV} (h : z₀ = nwT n) : nwordsL.post [.int n] z₀ := fun n₁ e => by
 simp only [qy] at e; subst e
 exact h
theorem nwords_all {n : Int} {Q : TV → Prop} : (∀ z₀, nwordsL.post [.int n] z₀ → Q z₀) ↔ Q (nwT n) := ⟨fun h => h _ (nwords_fin rfl), fun h z₀ hr => by rw [hr _ rfl]; exact h⟩
theorem nwords_c (k : Nat) : Contract Tryz.prog (mkEnv globT []) gtabU (qqb k) nwordsL.pre nwordsL.post := Contract.env (Γ := mkEnv globT [nsmallL]) (contract_numwords_Words (fun _ => rfl) (fun s hs => by
  simp only [cx_numwords_Words, List.mem_cons, List.not_mem_nil, or_false] at hs
  rcases hs with rfl
  ·exact Contract.inEnv rfl (nsmall_c 0) rfl) k (by
 rintro ts hl ⟨n, rfl, hp⟩
 have hfin : ∀ z₀ : TV, z₀ = nwT n → nwordsL.post [.int n] z₀ := fun z₀ hz₀ => nwords_fin hz₀
 generalize nwordsL.post [.int n] = R at hfin ⊢
 unfold tr_numwords_Words
 change Tree.den _ R trWords _ _
 unfold trWords
 have hc : ∀ k : Nat, k % 1000000 % 1000 = k % 1000 := fun k => by omega
 refine dbr (fun h => ?_) (fun h => dbr (fun h2 => ?_) (fun h2 => dbr (fun h3 => ?_) (fun h3 => dbr (fun h4 => ?_) (fun h4 => ?_))))
 all_goals simp only [E.den, P2.den, qe, zac, zab, decide_eq_true_eq, decide_eq_false_iff_not, qk, ql, ne_eq] at *
 ·exact dret (hfin _ (nw_none (.inl h)).symm)
 ·exact dret (hfin _ (nw_none (.inr h2)).symm)
 ·subst h3
  exact dret (hfin _ rfl)
 ·obtain ⟨k, rfl⟩ : ∃ k : Nat, n = -(k : Int) := ⟨n.natAbs, by omega⟩
  have qn : IntKind.wrap .i64 (0 - -(k : Int)) = (k : Int) := by rw [wrap_i64 (by omega) (by omega)]; omega
  refine fitE_den (oneE_den _) (by decide) (g1_says R [.int (-(k : Int))] _ _ [[109, 105, 110, 117, 115]] k (fun xs => rfl) (fun xs => ?_) (by omega) (by decide) (hfin _ ?_))
  ·simp only [E.den, P1.den, List.cons_append, qe, zac, qn]
  ·rw [nw_neg k (by omega) (by omega), words_grp (by omega)]; dsimp only; rw [hc]; rfl
 ·obtain ⟨k, rfl⟩ : ∃ k : Nat, n = (k : Int) := ⟨n.natAbs, by omega⟩
  refine g1_says R [.int (k : Int)] _ _ [] k (fun xs => rfl) (fun xs => rfl) (by omega) (by decide) (hfin _ ?_)
  rw [nw_pos k (by omega), words_grp (by omega)]; dsimp only; rw [hc]; rfl)) rfl
end Go.Proofs.YtlhagkbhojmjpaaGreatDoor
