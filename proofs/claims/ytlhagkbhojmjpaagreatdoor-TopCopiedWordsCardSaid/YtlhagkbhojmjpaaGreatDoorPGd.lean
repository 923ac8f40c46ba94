/- Written by this repo's own program out of its texts. -/
import Derived.Test.YtlhagkbhojmjpaaGreatDoorPGc
set_option linter.unusedSimpArgs false
set_option linter.unusedVariables false
set_option linter.unusedSectionVars false
namespace Go.Proofs.YtlhagkbhojmjpaaGreatDoor
def lsE (ob : Nat) : E := .o2 (.sub .i64) (.o1 .len (.v ob)) (.int 1)
def adF (ob : Nat) : Tree := .back 3 [(.bool false), (.bool false), (.v ob)]
def adZ (d ob : Nat) (rr : E) : Tree := .br (.o2 .lti (lsE ob) (.int 0)) (adF ob)
 (.req (.o2 .lei (.int 0) (lsE ob)) (.req (.o2 .lti (lsE ob) (.o1 .len (.v ob))) (.call 2 [(.o1 (.proj 0) (.o2 .idx (.v ob) (lsE ob))), rr]
  (.req (.o2 .lei (.int 0) (lsE ob)) (.req (.o2 .lti (lsE ob) (.o1 .len (.v ob))) (.back 3 [(.o2 .eqi (.o1 (.proj 1) (.v (d + 1))) (.int 0)), (.bool false), (.o3 .set (.v ob) (lsE ob) (.o2 (.setc 0 3) (.o2 .idx (.v ob) (lsE ob)) (.o1 (.proj 0) (.v (d + 1)))))]))))))
def adN (d : Nat) : E := .o2 .app (.v (d + 2)) (.cons (.o1 .agg (.cons (.v (d + 3)) (.cons (.o2 .eqi (.v d) (.int 2)) (.cons (.v 8) .nil)))) .nil)
def adL (d ob : Nat) (tm rr : E) : Tree := .loop [(.int 0), (.v ob)]
 (.br (.o2 .lti (.v (d + 1)) tm)
  (.call 4 [(.cons rr .nil)] (.req (.o2 .lei (.o1 .len (adN d)) (.int 1099511627776)) (.back 4 [(.o2 (.add .i64) (.v (d + 1)) (.int 1)), adN d])))
  (.back 3 [(.bool true), (.bool false), (.v (d + 2))]))
def adT (d ob : Nat) (tm rr : E) (x : Bool) : Tree := .call 3 [rr] (.br (.o2 .lti (.v d) (.int 0)) (adF ob)
 (.br (.o2 .eqi (.v d) (.int 0)) (if x = true then .br (.o2 .lti (.int 1) tm) (adF ob) (adZ d ob rr) else adZ d ob rr) (adL d ob tm rr)))
theorem attT (s : By) (m : Int) (t : By) (h : attS s m = some t) : qcf s m = .agg [.str t, .int 0] := by
 unfold attS at h
 unfold qcf
 split at h
 ·rename_i c
  cases h
  rw [if_pos c.1, if_pos c.2.1, if_neg (by omega)]
 ·cases h
def AdI (out : List Gl) (g : Gl) (n : Nat) (xs : List TV) : Prop := ∃ i : Nat, xs = [.int i, glsT (out ++ List.replicate i g)] ∧ i ≤ n
def Adm (n : Nat) (xs : List TV) : Nat := n - (xs.getD 0 (.int 0)).asInt.toNat
theorem adT_den {R : TV → Prop} {ρ : List TV} {L0 L1 I I3 : List TV → Prop} {d ob : Nat} {tm rr : E} {x : Bool} {r : Int} {n : Nat} {y : Int} {out : List Gl} {ws : List By} {j : Bool} {m : Nat} {q : Ps} (hd : ρ.length = d) (hr : ∀ xs, rr.den GE (ρ ++ xs) = .int r) (htm : ∀ xs, tm.den GE (ρ ++ xs) = .int n) (ho : ∀ xs, (ρ ++ xs).getD ob (.int 0) = glsT out) (h8 : ∀ xs, (ρ ++ xs).getD 8 (.int 0) = .int y)
  (hx : x = true ∨ n = 1) (hn : n ≤ 132) (hrb : 0 ≤ r ∧ r ≤ 1114111) (hok : OkO out) (hol : out.length ≤ 1000000) (hq : addP ⟨ws, out, y, j⟩ r n m = some q) (hql : q.out.length ≤ 1000000) (h : I3 [.bool true, .bool false, glsT q.out]) : Tree.den GE R (adT d ob tm rr x) ρ [L0, L1, I, I3] := by
 subst hd
 have hr0 : rr.den GE ρ = .int r := by simpa using hr []
 have hlr : ∀ zs : List TV, (ρ ++ zs).length = ρ.length + zs.length := fun zs => List.length_append
 refine dcall ?_ fun v hv => ?_
 ·show widthL.pre [rr.den GE ρ]
  rw [hr0]
  exact zc0 trivial
 have hv : widthL.post [rr.den GE ρ] v := hv
 rw [hr0] at hv
 have hvv : v = .int (za5 r) := (zcf (r := r) (Q := fun v => v = .int (za5 r))).2 rfl v hv
 subst hvv
 unfold addP at hq
 dsimp only at hq
 by_cases hw0 : za5 r < 0
 ·rw [if_pos hw0] at hq; cases hq
 rw [if_neg hw0] at hq
 refine dbr (fun k => ?_) fun _ => dbr (fun k => ?_) fun k => ?_
 ·simp only [Tree.den, E.den, P1.den, P2.den, P3.den, TV.cell, ne_eq, forall_eq, Int.reduceToNat, exists_eq_left', qz, gv0] at k
  exact absurd k hw0
 ·simp only [Tree.den, E.den, P1.den, P2.den, P3.den, TV.cell, ne_eq, forall_eq, Int.reduceToNat, exists_eq_left', qz, gv0] at k
  rw [if_pos k] at hq
  by_cases hn1 : 1 < n
  ·rw [if_pos hn1] at hq; cases hq
  rw [if_neg hn1] at hq
  rcases List.eq_nil_or_concat out with rfl | ⟨o, g, hoe⟩
  ·cases hq
  rw [List.concat_eq_append] at hoe
  subst hoe
  rw [List.getLast?_concat] at hq
  dsimp only at hq
  obtain ⟨t, ha, hqe⟩ : ∃ t, attS g.s r = some t ∧ (⟨ws.drop m, (o ++ [g]).dropLast ++ [⟨t, g.w, g.y⟩], y, false⟩ : Ps) = q := by
   cases ha : attS g.s r with
   | none => rw [ha] at hq; cases hq
   | some t => rw [ha] at hq; exact ⟨t, rfl, Option.some.inj hq⟩
  subst hqe
  rw [List.dropLast_concat] at hql h
  have hZ : Tree.den GE R (adZ ρ.length ob rr) (ρ ++ [.int (za5 r)]) [L0, L1, I, I3] := by
   have hol2 : (o ++ [g]).length = o.length + 1 := by rw [List.length_append]; rfl
   have ew : IntKind.wrap .i64 (((o.length + 1 : Nat) : Int) - 1) = (o.length : Int) := by rw [wrap_i64 (by omega) (by omega)]; omega
   have hge : (List.map glT (o ++ [g])).getD o.length (.int 0) = glT g := by
    rw [zi7 (by rw [hol2]; omega)]
    unfold gg
    rw [List.getD_eq_getElem?_getD, List.getElem?_append_right (Nat.le_refl _), Nat.sub_self]; rfl
   have hset : (List.map glT (o ++ [g])).set o.length (.agg [.str t, .bool g.w, .int g.y]) = List.map glT (o ++ [⟨t, g.w, g.y⟩]) := by
    rw [List.map_append, List.set_append_right _ _ (by rw [List.length_map]; exact Nat.le_refl _), List.length_map, Nat.sub_self, List.map_append]; rfl
   have hgs := hok g (by simp)
   refine dbr (fun k => ?_) fun _ => dreq ?_ (dreq ?_ (dcall ?_ fun v hv => dreq ?_ (dreq ?_ ⟨I3, rfl, ?_⟩)))
   ·simp only [lsE, Tree.den, E.den, P1.den, P2.den, P3.den, TV.cell, ne_eq, forall_eq, Int.reduceToNat, exists_eq_left', qz, ho, zbo, hol2, ew] at k
    omega
   ·simp only [lsE, Tree.den, E.den, P1.den, P2.den, P3.den, TV.cell, ne_eq, forall_eq, Int.reduceToNat, exists_eq_left', qz, ho, zbo, hol2, ew]; omega
   ·simp only [lsE, Tree.den, E.den, P1.den, P2.den, P3.den, TV.cell, ne_eq, forall_eq, Int.reduceToNat, exists_eq_left', qz, ho, zbo, hol2, ew]; omega
   ·show attachL.pre [E.den GE (ρ ++ [.int (za5 r)]) (.o1 (.proj 0) (.o2 .idx (.v ob) (lsE ob))), rr.den GE (ρ ++ [.int (za5 r)])]
    simp only [lsE, Tree.den, E.den, P1.den, P2.den, P3.den, TV.cell, ne_eq, forall_eq, Int.reduceToNat, exists_eq_left', qz, ho, zbo, zaw, hol2, ew, Int.toNat_natCast, hge, glT, List.length_map, hr]
    exact attach_pre ⟨by omega, by omega, by omega⟩
   all_goals
    have hv : attachL.post [E.den GE (ρ ++ [.int (za5 r)]) (.o1 (.proj 0) (.o2 .idx (.v ob) (lsE ob))), rr.den GE (ρ ++ [.int (za5 r)])] v := hv
    simp only [lsE, Tree.den, E.den, P1.den, P2.den, P3.den, TV.cell, ne_eq, forall_eq, Int.reduceToNat, exists_eq_left', qz, ho, zbo, zaw, hol2, ew, Int.toNat_natCast, hge, glT, List.length_map, hr] at hv
    have hvv : v = .agg [.str t, .int 0] := by
     rw [← attT _ _ _ ha]
     exact (attach_all (s := g.s) (m := r) (Q := fun v => v = qcf g.s r)).2 rfl v hv
    subst hvv
   ·simp only [lsE, Tree.den, E.den, P1.den, P2.den, P3.den, TV.cell, ne_eq, forall_eq, Int.reduceToNat, exists_eq_left', qz, List.append_assoc, ho, zbo, hol2, ew]; omega
   ·simp only [lsE, Tree.den, E.den, P1.den, P2.den, P3.den, TV.cell, ne_eq, forall_eq, Int.reduceToNat, exists_eq_left', qz, List.append_assoc, ho, zbo, hol2, ew]; omega
   ·simp only [lsE, Tree.den, E.den, P1.den, P2.den, P3.den, TV.cell, ne_eq, forall_eq, Int.reduceToNat, exists_eq_left', qz, List.append_assoc, List.cons_append, List.nil_append, gv1, ho, zbo, zaw, hol2, ew, Int.toNat_natCast, hge, glT, List.length_map]
    show I3 [.bool true, .bool false, TV.list ((List.map glT (o ++ [g])).set o.length (.agg [.str t, .bool g.w, .int g.y]))]
    rw [hset]
    exact h
  cases x with
  | true =>
   refine dbr (fun k => ?_) fun _ => hZ
   simp only [Tree.den, E.den, P1.den, P2.den, P3.den, TV.cell, ne_eq, forall_eq, Int.reduceToNat, exists_eq_left', qz, htm] at k
   omega
  | false => exact hZ
 ·simp only [Tree.den, E.den, P1.den, P2.den, P3.den, TV.cell, ne_eq, forall_eq, Int.reduceToNat, exists_eq_left', qz, gv0] at k
  rw [if_neg k] at hq
  cases hq
  dsimp only at hql h
  rw [List.length_append, List.length_replicate] at hql
  obtain ⟨G, hG⟩ : ∃ G : Gl, G = ⟨encS [r], decide (za5 r = 2), y⟩ := ⟨_, rfl⟩
  rw [← hG] at h
  refine ⟨AdI out G n, Adm n, ⟨0, ?_, by omega⟩, ?_⟩
  ·simp only [List.map_cons, List.map_nil, E.den, ho, List.replicate_zero, List.append_nil]; rfl
  rintro xs _ ⟨i, rfl, hi⟩
  have ew : IntKind.wrap .i64 ((i : Int) + 1) = ((i + 1 : Nat) : Int) := by rw [wrap_i64 (by omega) (by omega)]; omega
  refine dbr (fun hlt => dcall ?_ fun v hv => dreq ?_ ⟨_, rfl, ?_⟩) fun hlt => ⟨I3, rfl, ?_⟩
  all_goals
   simp only [Tree.den, E.den, P1.den, P2.den, P3.den, TV.cell, ne_eq, forall_eq, Int.reduceToNat, exists_eq_left', qz, List.append_assoc, List.cons_append, List.nil_append, gv1, htm] at hlt
  ·show encL.pre [E.den GE (ρ ++ [.int (za5 r)] ++ [.int i, glsT (out ++ List.replicate i G)]) (.cons rr .nil)]
   simp only [Tree.den, E.den, P1.den, P2.den, P3.den, TV.cell, ne_eq, forall_eq, Int.reduceToNat, exists_eq_left', qz, List.append_assoc, hr]
   refine ze3 (l := [r]) ⟨fun z hz => ?_, by show 1 ≤ 100000000000; omega⟩
   rcases List.mem_singleton.1 hz with rfl
   omega
  ·simp only [adN, Tree.den, E.den, P1.den, P2.den, P3.den, TV.cell, ne_eq, forall_eq, Int.reduceToNat, exists_eq_left', qz, List.append_assoc, List.cons_append, List.nil_append, gv2, zaw, List.length_append, List.length_map, List.length_replicate]
   omega
  ·have hv : encL.post [E.den GE (ρ ++ [.int (za5 r)] ++ [.int i, glsT (out ++ List.replicate i G)]) (.cons rr .nil)] v := hv
   simp only [Tree.den, E.den, P1.den, P2.den, P3.den, TV.cell, ne_eq, forall_eq, Int.reduceToNat, exists_eq_left', qz, List.append_assoc, hr] at hv
   have hvv : v = .str (encS [r]) := (zhf (l := [r]) (Q := fun v => v = .str (encS [r]))).2 rfl v hv
   subst hvv
   simp only [adN, Tree.den, E.den, P1.den, P2.den, P3.den, TV.cell, ne_eq, forall_eq, Int.reduceToNat, exists_eq_left', qz, List.append_assoc, List.cons_append, List.nil_append, gv0, gv1, gv2, gv3, h8, ew, zaw]
   refine ⟨⟨i + 1, ?_, by omega⟩, ?_⟩
   ·have e : (za5 r == 2) = decide (za5 r = 2) := rfl
    rw [e, gls_snoc _ ⟨encS [r], decide (za5 r = 2), y⟩, ← hG, List.append_assoc, List.replicate_succ']
   ·simp only [Adm, List.getD_cons_zero, zac]; omega
  ·obtain rfl : i = n := by omega
   simp only [Tree.den, E.den, P1.den, P2.den, P3.den, TV.cell, ne_eq, forall_eq, Int.reduceToNat, exists_eq_left', qz, List.append_assoc, List.cons_append, List.nil_append, gv2]
   exact h
theorem addP_q {p q : Ps} {r : Int} {n m : Nat} (h : addP p r n m = some q) : q.ws = p.ws.drop m ∧ q.j = false ∧ q.y = p.y := by
 unfold addP at h
 split at h
 ·cases h
 ·split at h
  ·split at h
   ·cases h
   ·split at h
    ·cases h
    ·rename_i g _
     cases ha : attS g.s r with
     | none => rw [ha] at h; cases h
     | some t => rw [ha] at h; cases h; exact ⟨rfl, rfl, rfl⟩
  ·cases h; exact ⟨rfl, rfl, rfl⟩
theorem sub_all {ws : List By} {k : Nat} : TV.list (((strs ws).asList.drop k).take (ws.length - k)) = strs (ws.drop k) := by
 rw [zbc, ← List.map_drop, List.take_of_length_le (by rw [List.length_map, List.length_drop]; omega)]; rfl
def sgT : Tree := .call 9 [(.v 15)] (.br (.o2 .eqi (.o1 (.proj 1) (.v 18)) (.int 0)) (.back 2 [(.bool false), (.v 15), (.v 16), (.v 17)])
 (.join (adT 19 17 (.int 1) (.o1 (.proj 0) (.v 18)) false) 3 (.br (.o1 .no (.v 19)) (.back 2 [(.bool false), (.v 15), (.v 20), (.v 21)])
  (.req (.o2 .lei (.int 0) (.o1 (.proj 1) (.v 18))) (.req (.o2 .lei (.o1 (.proj 1) (.v 18)) (.o1 .len (.v 15))) (.back 2 [(.bool true), (.o3 .sub (.v 15) (.o1 (.proj 1) (.v 18)) (.o1 .len (.v 15))), (.v 20), (.v 21)]))))))
set_option maxRecDepth 100000 in
theorem J15_eq : qx3 = sgT := by kernel_rfl
theorem J15_den {R : TV → Prop} {A X2 X3 X4 X5 X6 X7 X9 X10 X11 X12 X13 X14 : TV} {ws : List By} {y : Int} {j : Bool} {out : List Gl} {L0 L1 I : List TV → Prop} (hl : ws.length ≤ 400000) (hok : OkO out) (hol : out.length ≤ 1000000)
  (h0 : (chrP ws).2 = 0 → I [.bool false, strs ws, .bool j, glsT out])
  (h1 : (chrP ws).2 ≠ 0 → ∃ q, addP ⟨ws, out, y, j⟩ (chrP ws).1 1 (chrP ws).2 = some q ∧ q.out.length ≤ 1000000 ∧ I [.bool true, strs q.ws, .bool q.j, glsT q.out]) :
  Tree.den GE R qx3 [A, resT, X2, X3, X4, X5, X6, X7, .int y, X9, X10, X11, X12, X13, X14, strs ws, .bool j, glsT out] [L0, L1, I] := by
 rw [J15_eq]
 have hcb := chrP_bd ws
 refine dcall (schar_pre (l := ws) (by omega)) fun v hv => ?_
 have hvv : v = chrT ws := (schar_all (l := ws) (Q := fun v => v = chrT ws)).2 rfl v hv
 subst hvv
 unfold chrT
 rcases hq : chrP ws with ⟨r, m⟩
 rw [hq] at h0 h1 hcb
 dsimp only at h0 h1 hcb ⊢
 refine dbr (fun h => ⟨I, rfl, ?_⟩) fun h => ?_
 all_goals
  simp only [Tree.den, E.den, P1.den, P2.den, P3.den, TV.cell, ne_eq, forall_eq, Int.reduceToNat, exists_eq_left', qz, List.cons_append, List.nil_append] at h
 ·exact h0 (by omega)
 obtain ⟨q, hq1, hq2, hq3⟩ := h1 (by omega)
 obtain ⟨e1, e2, e3⟩ := addP_q hq1
 dsimp only at e1
 refine ⟨fun xs => xs = [.bool true, .bool false, glsT q.out], adT_den (r := r) (n := 1) (y := y) (out := out) rfl (fun _ => rfl) (fun _ => rfl) (fun _ => rfl) (fun _ => rfl) (.inr rfl) (by omega) ⟨by omega, by omega⟩ hok hol hq1 hq2 rfl, ?_⟩
 rintro xs _ rfl
 refine dbr (fun h => ?_) fun _ => dreq ?_ (dreq ?_ ⟨I, rfl, ?_⟩)
 ·exact Bool.noConfusion (show false = true from h)
 ·simp only [Tree.den, E.den, P1.den, P2.den, P3.den, TV.cell, ne_eq, forall_eq, Int.reduceToNat, exists_eq_left', qz, List.cons_append, List.nil_append]; omega
 ·simp only [Tree.den, E.den, P1.den, P2.den, P3.den, TV.cell, ne_eq, forall_eq, Int.reduceToNat, exists_eq_left', qz, List.cons_append, List.nil_append, zgq]; omega
 ·simp only [Tree.den, E.den, P1.den, P2.den, P3.den, TV.cell, ne_eq, forall_eq, Int.reduceToNat, exists_eq_left', qz, List.cons_append, List.nil_append, zgq, Int.toNat_natCast, sub_all]
  rw [e1, e2] at hq3
  exact hq3
end Go.Proofs.YtlhagkbhojmjpaaGreatDoor
