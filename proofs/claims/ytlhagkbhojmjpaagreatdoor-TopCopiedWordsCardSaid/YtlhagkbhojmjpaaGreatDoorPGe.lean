/- Written by this repo's own program out of its texts. -/
import Derived.Test.YtlhagkbhojmjpaaGreatDoorPGd
set_option linter.unusedSimpArgs false
set_option linter.unusedVariables false
set_option linter.unusedSectionVars false
namespace Go.Proofs.YtlhagkbhojmjpaaGreatDoor
def amF : Tree := .back 2 [(.bool false), (.v 19), (.v 20), (.v 21)]
def dgE : E := .o2 .cat (.o1 .ofRune (.o1 (.wrap .i32) (.o2 (.add .i64) (.int 48) (.o2 .rem (.v 24) (.int 10))))) (.v 23)
def amS : Tree := .req (.o2 .lei (.o1 .slen dgE) (.int 9223372036854775807)) (.back 3 [dgE, (.o2 (.quo .i64) (.v 24) (.int 10))])
def uE : E := .o1 (.proj 1) (.v 22)
def amL : Tree := .loop [(.str []), (.o1 (.proj 0) (.v 22))]
 (.br (.o2 .lti (.int 0) (.v 24)) amS (.br (.o2 .eqs (.v 23) (.str [])) amS
  (.join (txT 4 25 (.v 20) (.v 21) (.v 8) (.v 23)) 2 (.req (.o2 .lei (.int 0) uE) (.req (.o2 .lei uE (.o1 .len (.v 19))) (.back 2 [(.bool true), (.o3 .sub (.v 19) uE (.o1 .len (.v 19))), (.v 25), (.v 26)]))))))
def u1E : E := .o2 (.add .i64) uE (.int 1)
def umE : E := .o2 (.add .i64) u1E (.o1 (.proj 1) (.v 23))
def amR : Tree := .req (.o2 .lei (.int 0) u1E) (.req (.o2 .lei u1E (.o1 .len (.v 19))) (.call 9 [(.o3 .sub (.v 19) u1E (.o1 .len (.v 19)))]
 (.br (.o2 .eqi (.o1 (.proj 1) (.v 23)) (.int 0)) amF
  (.br (.o2 .lti (.o1 (.proj 0) (.v 22)) (.int 2)) amF
   (.br (.o2 .lti (.int 132) (.o1 (.proj 0) (.v 22))) amF
    (.join (adT 24 21 (.o1 (.proj 0) (.v 22)) (.o1 (.proj 0) (.v 23)) true) 3 (.br (.o1 .no (.v 24)) (.back 2 [(.bool false), (.v 19), (.v 25), (.v 26)])
     (.req (.o2 .lei (.int 0) umE) (.req (.o2 .lei umE (.o1 .len (.v 19))) (.back 2 [(.bool true), (.o3 .sub (.v 19) umE (.o1 .len (.v 19))), (.v 25), (.v 26)]))))))))))
def amT : Tree := .call 1 [(.v 19)] (.br (.o1 .no (.o2 .eqi (.o1 (.proj 2) (.v 22)) (.int 0))) amF
 (.br (.o2 .lti (.o1 (.proj 0) (.v 22)) (.int 0)) amF
  (.br (.o2 .eqi uE (.o1 .len (.v 19))) amL
   (.req (.o2 .lei (.int 0) uE) (.req (.o2 .lti uE (.o1 .len (.v 19))) (.br (.o1 .no (.o2 .eqs (.o2 .idx (.v 19) uE) (.str [116, 105, 109, 101, 115]))) amL amR))))))
set_option maxRecDepth 100000 in
theorem J18_eq : qyp = amT := by kernel_rfl
def AmI (n : Nat) (xs : List TV) : Prop := ∃ (k : Nat) (s : By), xs = [.str s, .int (n / 10 ^ k : Nat)] ∧ k ≤ 12 ∧ s.length = k ∧ decW 12 n [] = decW (12 - k) (n / 10 ^ k) s
def Amm (xs : List TV) : Nat := (xs.getD 1 (.int 0)).asInt.toNat + if (xs.getD 0 (.int 0)).asStr = [] then 1 else 0
theorem dec_step (f m : Nat) (s : By) (h : 0 < m ∨ s = []) : decW (f + 1) m s = decW f (m / 10) ((48 + m % 10).toUInt8 :: s) := if_pos h
theorem dec_stop (f : Nat) (s : By) (h : s ≠ []) : decW f 0 s = s := by
 cases f with
 | zero => rfl
 | succ f => exact if_neg (by rintro (h1 | h1); exact absurd h1 (by omega); exact h h1)
section
variable {R : TV → Prop} {A X2 X3 X4 X5 X6 X7 X9 X10 X11 X12 X13 X14 X15 X16 X17 X18 : TV} {ws : List By} {y : Int} {j : Bool} {out : List Gl} {L0 L1 I : List TV → Prop}
theorem amL_den {n : Nat} {u : Nat} (hn : n ≤ 999999999) (hu : u ≤ ws.length) (hl : ws.length ≤ 400000)
  (h1 : (txO j out y (decW 12 n [])).length ≤ 1000000 ∧ I [.bool true, strs (ws.drop u), .bool true, glsT (txO j out y (decW 12 n []))]) :
  Tree.den GE R amL [A, resT, X2, X3, X4, X5, X6, X7, .int y, X9, X10, X11, X12, X13, X14, X15, X16, X17, X18, strs ws, .bool j, glsT out, .agg [.int n, .int u, .int 0]] [L0, L1, I] := by
 obtain ⟨ht, hI⟩ := h1
 refine ⟨AmI n, Amm, ⟨0, [], by simp only [List.map_cons, List.map_nil, Tree.den, E.den, P1.den, P2.den, P3.den, TV.cell, ne_eq, forall_eq, Int.reduceToNat, exists_eq_left', qz, Nat.pow_zero, Nat.div_one], by omega, rfl, by rw [Nat.pow_zero, Nat.div_one]⟩, ?_⟩
 rintro xs _ ⟨k, s, rfl, hk, hs, hd⟩
 obtain ⟨m, hm⟩ : ∃ m, m = n / 10 ^ k := ⟨_, rfl⟩
 have hmn : m ≤ n := by rw [hm]; exact Nat.div_le_self _ _
 have hm8 : 0 < m → k ≤ 8 := fun h => by
  refine Nat.le_of_not_lt fun hk9 => ?_
  have : 10 ^ 9 ≤ 10 ^ k := Nat.pow_le_pow_right (by omega) (by omega)
  rw [hm, Nat.div_eq_of_lt (by omega)] at h
  omega
 have hnx : m / 10 = n / 10 ^ (k + 1) := by rw [hm, Nat.div_div_eq_div_mul, Nat.pow_succ]
 rw [← hm] at hd ⊢
 have hen := enc_digit (n := m % 10) (by omega)
 have et : (((m : Nat) : Int)).tmod 10 = ((m % 10 : Nat) : Int) := rfl
 have ed : (((m : Nat) : Int)).tdiv 10 = ((m / 10 : Nat) : Int) := rfl
 have ew : IntKind.wrap .i64 ((m / 10 : Nat) : Int) = ((m / 10 : Nat) : Int) := wrap_i64 (by omega) (by omega)
 have hst : 0 < m ∨ s = [] → Tree.den GE R amS ([A, resT, X2, X3, X4, X5, X6, X7, .int y, X9, X10, X11, X12, X13, X14, X15, X16, X17, X18, strs ws, .bool j, glsT out, .agg [.int n, .int u, .int 0]] ++ [.str s, .int m]) ([L0, L1, I] ++ [fun ys => AmI n ys ∧ Amm ys < Amm [.str s, .int m]]) := fun h => by
  have hk8 : k ≤ 8 := h.elim hm8 fun e => by rw [e] at hs; rw [← hs]; exact Nat.zero_le _
  obtain ⟨f, hf⟩ : ∃ f, 12 - k = f + 1 := ⟨11 - k, by omega⟩
  rw [hf, dec_step _ _ _ h] at hd
  refine dreq ?_ ⟨_, rfl, ?_⟩
  ·simp only [dgE, Tree.den, E.den, P1.den, P2.den, P3.den, TV.cell, ne_eq, forall_eq, Int.reduceToNat, exists_eq_left', qz, List.cons_append, List.nil_append, et, hen, List.length_cons]; omega
  ·simp only [dgE, Tree.den, E.den, P1.den, P2.den, P3.den, TV.cell, ne_eq, forall_eq, Int.reduceToNat, exists_eq_left', qz, List.cons_append, List.nil_append, et, hen, ed, ew]
   refine ⟨⟨k + 1, _, by rw [hnx], by omega, by rw [List.length_cons, hs], ?_⟩, ?_⟩
   ·rw [hd, ← hnx, show 12 - (k + 1) = f by omega]
   ·simp only [Amm, List.getD_cons_zero, List.getD_cons_succ, zac, zad, Int.toNat_natCast]
    rw [if_neg (List.cons_ne_nil _ _)]
    rcases Nat.eq_zero_or_pos m with h0 | h0
    ·have hs0 : s = [] := h.resolve_left (by omega)
     rw [if_pos hs0, h0]
     decide
    ·have : m / 10 < m := Nat.div_lt_self h0 (by decide)
     omega
 refine dbr (fun h => hst (.inl ?_)) fun h => dbr (fun h2 => hst (.inr ?_)) fun h2 => ?_
 ·simp only [Tree.den, E.den, P1.den, P2.den, P3.den, TV.cell, ne_eq, forall_eq, Int.reduceToNat, exists_eq_left', qz, List.cons_append, List.nil_append] at h; omega
 ·simp only [Tree.den, E.den, P1.den, P2.den, P3.den, TV.cell, ne_eq, forall_eq, Int.reduceToNat, exists_eq_left', qz, List.cons_append, List.nil_append] at h2; exact h2
 ·simp only [Tree.den, E.den, P1.den, P2.den, P3.den, TV.cell, ne_eq, forall_eq, Int.reduceToNat, exists_eq_left', qz, List.cons_append, List.nil_append] at h h2
  obtain rfl : m = 0 := by omega
  rw [dec_stop _ _ h2] at hd
  rw [hd] at ht hI
  refine ⟨fun xs => xs = [.bool true, glsT (txO j out y s)], txT_den (s := s) (jb := j) (yv := y) (out := out) rfl rfl rfl rfl (fun _ => rfl) (fun _ => rfl) rfl ht rfl, ?_⟩
  rintro xs _ rfl
  refine dreq ?_ (dreq ?_ ⟨I, rfl, ?_⟩)
  ·simp only [uE, Tree.den, E.den, P1.den, P2.den, P3.den, TV.cell, ne_eq, forall_eq, Int.reduceToNat, exists_eq_left', qz, List.cons_append, List.nil_append]; omega
  ·simp only [uE, Tree.den, E.den, P1.den, P2.den, P3.den, TV.cell, ne_eq, forall_eq, Int.reduceToNat, exists_eq_left', qz, List.cons_append, List.nil_append, zgq]; omega
  ·simp only [uE, Tree.den, E.den, P1.den, P2.den, P3.den, TV.cell, ne_eq, forall_eq, Int.reduceToNat, exists_eq_left', qz, List.cons_append, List.nil_append, zgq, Int.toNat_natCast, sub_all]
   exact hI
theorem J18_den {q : Ps} (hl : ws.length ≤ 400000) (hok : OkO out) (hol : out.length ≤ 1000000) (hq : qvm ⟨ws, out, y, j⟩ = some q) (hql : q.out.length ≤ 1000000) (h : I [.bool true, strs q.ws, .bool q.j, glsT q.out]) :
  Tree.den GE R qyp [A, resT, X2, X3, X4, X5, X6, X7, .int y, X9, X10, X11, X12, X13, X14, X15, X16, X17, X18, strs ws, .bool j, glsT out] [L0, L1, I] := by
 rw [J18_eq]
 have e6 : ([116, 105, 109, 101, 115] : List UInt8) = cwd 6 := rfl
 refine dcall (npref_pre (l := ws) (by omega)) fun v hv => ?_
 have hvv : v = prefT ws := (npref_all (l := ws) (Q := fun v => v = prefT ws)).2 rfl v hv
 subst hvv
 unfold prefT
 unfold qvm at hq
 dsimp only at hq
 cases hz : qvc ws with
 | none => rw [hz] at hq; cases hq
 | some p =>
  obtain ⟨n, u⟩ := p
  have hb := prefixZ_bd hz
  rw [hz] at hq
  dsimp only at hq ⊢
  by_cases hn0 : n < 0
  ·rw [if_pos hn0] at hq; cases hq
  rw [if_neg hn0] at hq
  obtain ⟨n, rfl⟩ : ∃ k : Nat, n = k := ⟨n.toNat, by omega⟩
  rw [Int.toNat_natCast] at hq
  have hL : (ws.drop u).headD [] ≠ cwd 6 → Tree.den GE R amL [A, resT, X2, X3, X4, X5, X6, X7, .int y, X9, X10, X11, X12, X13, X14, X15, X16, X17, X18, strs ws, .bool j, glsT out, .agg [.int n, .int u, .int 0]] [L0, L1, I] := fun hne => by
   rw [if_pos hne] at hq
   cases hq
   exact amL_den (by omega) (by omega) hl ⟨hql, h⟩
  refine dbr (fun k => Bool.noConfusion (show false = true from k)) fun _ => dbr (fun k => ?_) fun _ => dbr (fun k => hL ?_) fun k => dreq ?_ (dreq ?_ (dbr (fun k2 => hL ?_) fun k2 => ?_))
  ·simp only [Tree.den, E.den, P1.den, P2.den, P3.den, TV.cell, ne_eq, forall_eq, Int.reduceToNat, exists_eq_left', qz, List.cons_append, List.nil_append] at k
   exact absurd k hn0
  all_goals simp only [uE, Tree.den, E.den, P1.den, P2.den, P3.den, TV.cell, ne_eq, forall_eq, Int.reduceToNat, exists_eq_left', qz, List.cons_append, List.nil_append, zgq] at k
  ·rw [List.drop_of_length_le (by omega)]
   exact fun e => absurd e (by decide)
  ·simp only [uE, Tree.den, E.den, P1.den, P2.den, P3.den, TV.cell, ne_eq, forall_eq, Int.reduceToNat, exists_eq_left', qz, List.cons_append, List.nil_append, zgq]; omega
  ·simp only [uE, Tree.den, E.den, P1.den, P2.den, P3.den, TV.cell, ne_eq, forall_eq, Int.reduceToNat, exists_eq_left', qz, List.cons_append, List.nil_append, zgq]; omega
  all_goals
   have hlt : u < ws.length := by omega
   have hhd : (ws.drop u).headD [] = sg ws u := by rw [sdrop hlt]; rfl
   simp only [uE, Tree.den, E.den, P1.den, P2.den, P3.den, TV.cell, ne_eq, forall_eq, Int.reduceToNat, exists_eq_left', qz, List.cons_append, List.nil_append, zbc, Int.toNat_natCast, sgetD hlt, e6] at k2
  ·rw [hhd]; exact k2
  rw [if_neg (fun z => z (by rw [hhd]; exact k2))] at hq
  have hcb := chrP_bd (ws.drop (u + 1))
  rw [List.length_drop] at hcb
  have ew : IntKind.wrap .i64 ((u : Int) + 1) = ((u + 1 : Nat) : Int) := by rw [wrap_i64 (by omega) (by omega)]; omega
  refine dreq ?_ (dreq ?_ (dcall ?_ fun v hv => ?_))
  ·simp only [u1E, uE, Tree.den, E.den, P1.den, P2.den, P3.den, TV.cell, ne_eq, forall_eq, Int.reduceToNat, exists_eq_left', qz, List.cons_append, List.nil_append, zgq, ew]; omega
  ·simp only [u1E, uE, Tree.den, E.den, P1.den, P2.den, P3.den, TV.cell, ne_eq, forall_eq, Int.reduceToNat, exists_eq_left', qz, List.cons_append, List.nil_append, zgq, ew]; omega
  all_goals
   have hx : (E.o3 .sub (.v 19) u1E (.o1 .len (.v 19))).den GE ([A, resT, X2, X3, X4, X5, X6, X7, .int y, X9, X10, X11, X12, X13, X14, X15, X16, X17, X18, strs ws, .bool j, glsT out] ++ [.agg [.int n, .int u, .int 0]]) = strs (ws.drop (u + 1)) := by
    simp only [u1E, uE, Tree.den, E.den, P1.den, P2.den, P3.den, TV.cell, ne_eq, forall_eq, Int.reduceToNat, exists_eq_left', qz, List.cons_append, List.nil_append, zgq, ew, Int.toNat_natCast, sub_all]
  ·show scharL.pre [(E.o3 .sub (.v 19) u1E (.o1 .len (.v 19))).den GE ([A, resT, X2, X3, X4, X5, X6, X7, .int y, X9, X10, X11, X12, X13, X14, X15, X16, X17, X18, strs ws, .bool j, glsT out] ++ [.agg [.int n, .int u, .int 0]])]
   rw [hx]
   exact schar_pre (by rw [List.length_drop]; omega)
  have hv : scharL.post [(E.o3 .sub (.v 19) u1E (.o1 .len (.v 19))).den GE ([A, resT, X2, X3, X4, X5, X6, X7, .int y, X9, X10, X11, X12, X13, X14, X15, X16, X17, X18, strs ws, .bool j, glsT out] ++ [.agg [.int n, .int u, .int 0]])] v := hv
  rw [hx] at hv
  have hvv : v = chrT (ws.drop (u + 1)) := (schar_all (l := ws.drop (u + 1)) (Q := fun v => v = chrT (ws.drop (u + 1)))).2 rfl v hv
  subst hvv
  unfold chrT
  rcases hc : chrP (ws.drop (u + 1)) with ⟨r, m⟩
  rw [hc] at hq hcb
  dsimp only at hq hcb ⊢
  by_cases hbad : m = 0 ∨ (n : Int) < 2 ∨ 132 < (n : Int)
  ·rw [if_pos hbad] at hq; cases hq
  rw [if_neg hbad] at hq
  obtain ⟨e1, e2, e3⟩ := addP_q hq
  dsimp only at e1
  have ew2 : IntKind.wrap .i64 (((u + 1 : Nat) : Int) + m) = ((u + 1 + m : Nat) : Int) := by rw [wrap_i64 (by omega) (by omega)]; omega
  refine dbr (fun k => ?_) fun _ => dbr (fun k => ?_) fun _ => dbr (fun k => ?_) fun _ => ?_
  ·simp only [Tree.den, E.den, P1.den, P2.den, P3.den, TV.cell, ne_eq, forall_eq, Int.reduceToNat, exists_eq_left', qz, List.cons_append, List.nil_append] at k; omega
  ·simp only [Tree.den, E.den, P1.den, P2.den, P3.den, TV.cell, ne_eq, forall_eq, Int.reduceToNat, exists_eq_left', qz, List.cons_append, List.nil_append] at k; omega
  ·simp only [Tree.den, E.den, P1.den, P2.den, P3.den, TV.cell, ne_eq, forall_eq, Int.reduceToNat, exists_eq_left', qz, List.cons_append, List.nil_append] at k; omega
  refine ⟨fun xs => xs = [.bool true, .bool false, glsT q.out], adT_den (r := r) (n := n) (y := y) (out := out) rfl (fun _ => rfl) (fun _ => rfl) (fun _ => rfl) (fun _ => rfl) (.inl rfl) (by omega) ⟨by omega, by omega⟩ hok hol hq hql rfl, ?_⟩
  rintro xs _ rfl
  refine dbr (fun h => ?_) fun _ => dreq ?_ (dreq ?_ ⟨I, rfl, ?_⟩)
  ·exact Bool.noConfusion (show false = true from h)
  ·simp only [umE, u1E, uE, Tree.den, E.den, P1.den, P2.den, P3.den, TV.cell, ne_eq, forall_eq, Int.reduceToNat, exists_eq_left', qz, List.cons_append, List.nil_append, zgq, ew, ew2]; omega
  ·simp only [umE, u1E, uE, Tree.den, E.den, P1.den, P2.den, P3.den, TV.cell, ne_eq, forall_eq, Int.reduceToNat, exists_eq_left', qz, List.cons_append, List.nil_append, zgq, ew, ew2]; omega
  ·simp only [umE, u1E, uE, Tree.den, E.den, P1.den, P2.den, P3.den, TV.cell, ne_eq, forall_eq, Int.reduceToNat, exists_eq_left', qz, List.cons_append, List.nil_append, zgq, ew, ew2, Int.toNat_natCast, sub_all]
   rw [e1, e2] at h
   exact h
end
end Go.Proofs.YtlhagkbhojmjpaaGreatDoor
