/- Written by this repo's own program out of its texts. -/
import Derived.Test.YtlhagkbhojmjpaaGreatDoorPGa
set_option linter.unusedSimpArgs false
set_option linter.unusedVariables false
set_option linter.unusedSectionVars false
namespace Go.Proofs.YtlhagkbhojmjpaaGreatDoor
def stL : List By := [cwd 10, cwd 11, cwd 12, cwd 13]
theorem stylesT_eq : stylesT = strs stL := rfl
theorem stI_eq (w : By) : stL.findIdx? (· == w) = quq w := by
 unfold stL quq
 have e : List.range 4 = [0, 1, 2, 3] := rfl
 rw [e]
 simp only [List.findIdx?_cons, List.findIdx?_nil, List.find?_cons, List.find?_nil, Nat.add_zero, Nat.reduceAdd]
 cases cwd 10 == w <;> cases cwd 11 == w <;> cases cwd 12 == w <;> cases cwd 13 == w <;> rfl
theorem J0_den {R : TV → Prop} {A : TV} {w : By} {t : List By} {y : Int} {j : Bool} {o : TV} {out : List Gl} {L0 L1 I : List TV → Prop} (hl : (w :: t).length ≤ 1000000)
  (h : match qum ⟨w :: t, out, y, j⟩ with
   | some q => I [.bool true, strs q.ws, .int q.y, .bool q.j]
   | none => I [.bool false, strs (w :: t), .int y, .bool j]) : Tree.den GE R qyy [A, resT, strs (w :: t), .int y, .bool j, o] [L0, L1, I] := by
 have hlen : (w :: t).length = t.length + 1 := rfl
 have e1 : [106, 111, 105, 110, 101, 100] = cwd 1 := rfl
 have hst : GE.glob 3 = stylesT := rfl
 unfold qyy
 have hw0 : (strs (w :: t)).asList.getD 0 (.int 0) = .str w := rfl
 have hwl : (strs (w :: t)).asList.length = t.length + 1 := by rw [zgq]; rfl
 have hs4 : (strs stL).asList.length = 4 := rfl
 have hsub : TV.list ((((strs (w :: t)).asList).drop 1).take (t.length + 1 - 1)) = strs t := by
  rw [zbc, List.map_cons, List.drop_succ_cons, List.drop_zero, List.take_of_length_le (by rw [List.length_map]; omega)]; rfl
 simp only [Tree.den, E.den, hst, stylesT_eq]
 simp only [GE]
 simp only [Tree.den, E.den, P1.den, P2.den, P3.den, TV.cell, ne_eq, forall_eq, Int.reduceToNat, exists_eq_left', qz, hwl, hw0, sidx_all, stI_eq, e1, Int.toNat_natCast, hs4, hsub]
 have hst2 : (mkEnv globT [nnumL, nprefL, attachL, widthL, encL, suppL, srsvL, splainL, sidxL, scharL]).glob 3 = strs stL := rfl
 simp only [hst2]
 refine ⟨rfl, fun xs => xs = [.str w], ⟨fun h => absurd h (by omega), fun _ => ⟨by omega, rfl⟩⟩, ?_⟩
 rintro xs _ rfl
 simp only [List.getD_cons_zero, List.getD_cons_succ, List.cons_append, List.nil_append, zac, zad, sidx_all, stI_eq]
 refine ⟨sidx_pre (by decide), ?_⟩
 unfold qum at h
 dsimp only at h
 cases hs : quq w with
 | none =>
  rw [hs] at h
  refine ⟨fun _ => ⟨fun xs => xs = [.str w], ⟨fun h => absurd h (by omega), fun _ => ⟨by omega, rfl⟩⟩, ?_⟩, fun h => absurd (show (-1 : Int) < 0 by decide) h⟩
  rintro xs _ rfl
  refine ⟨fun h1 => ?_, fun h1 => ⟨fun h => absurd h (by decide), fun _ => ⟨by omega, ?_⟩⟩⟩
  ·have h1 : ¬ w = cwd 1 := h1
   rw [if_neg h1] at h
   exact h
  ·have h1 : w = cwd 1 := h1
   rw [if_pos h1] at h
   exact h
 | some i =>
  rw [hs] at h
  have h : I [.bool true, strs t, .int i, .bool false] := h
  exact ⟨fun k => absurd k (by show ¬ (i : Int) < 0; omega), fun _ => ⟨fun _ => ⟨by omega, h⟩, fun k => absurd (show (0 : Int) ≤ (i : Int) by omega) k⟩⟩
def nxT : Tree := .br (.o2 .eqi (.o1 .len (.v 7)) (.int 0)) (.back 3 [(.str [])]) (.req (.o2 .lti (.int 0) (.o1 .len (.v 7))) (.back 3 [(.o2 .idx (.v 7) (.int 0))]))
def tkT (c : Int) (n r : Nat) : Tree := .req (.o2 .lei (.int 0) (.o2 (.add .i64) (.int c) (.v n))) (.req (.o2 .lei (.o2 (.add .i64) (.int c) (.v n)) (.o1 .len (.v 7))) (.back 2 [(.bool true), (.o3 .sub (.v 7) (.o2 (.add .i64) (.int c) (.v n)) (.o1 .len (.v 7))), (.v r), (.v (r + 1))]))
def sb7 (c : Int) : E := .o3 .sub (.v 7) (.int c) (.o1 .len (.v 7))
def elT (c : Int) (d : Nat) : Tree := if c = 1 then
  (.req (.o2 .lei (.int 1) (.o1 .slen (.v d))) (.req (.o2 .lei (.int 1) (.o1 .slen (.v d))) (.call 5 [(.o3 .ssub (.v d) (.int 0) (.int 1))]
   (.req (.o2 .lei (.o1 .slen (.o2 .cat (.v (d + 3)) (.o3 .ssub (.v d) (.int 1) (.o1 .slen (.v d))))) (.int 9223372036854775807)) (.join
    (txT 3 (d + 4) (.v 9) (.v 5) (.v 8) (.o2 .cat (.v (d + 3)) (.o3 .ssub (.v d) (.int 1) (.o1 .slen (.v d)))))
    2 (tkT c (d + 1) (d + 4)))))))
 else (.join (txT 3 (d + 3) (.v 9) (.v 5) (.v 8) (.v d)) 2 (tkT c (d + 1) (d + 3)))
def wdT (c : Int) (d : Nat) : Tree := .req (.o2 .lei (.int c) (.o1 .len (.v 7))) (.join (litT d (sb7 c))
 2 (.br (.o2 .eqi (.v (d + 1)) (.int 0))
  (.back 2 [(.bool false), (.v 7), (.v 9), (.v 5)])
  (.join nxT
   1 (.br (.o2 .eqs (.v (d + 2)) (.str [99, 97, 112, 115]))
    (.call 5 [(.v d)] (.join (txT 3 (d + 4) (.v 9) (.v 5) (.v 8) (.v (d + 3))) 2 (tkT c (d + 1) (d + 4))))
    (elT c d)))))
def wordTree : Tree := .join nxT
 1 (.br (.o2 .eqs (.v 10) (.str [99, 97, 112]))
  (wdT 1 11)
  (.join nxT 1 (.br (.o2 .eqs (.v 11) (.str [99, 97, 112, 115])) (wdT 1 12) (wdT 0 12))))
set_option maxRecDepth 100000 in
theorem J10_eq : qyi = wordTree := by kernel_rfl
section
variable {ρ : List TV} {x a b c e f : TV} {xs : List TV}
theorem gv3 : (ρ ++ a :: b :: c :: e :: xs).getD (ρ.length + 3) x = e := by rw [List.getD_eq_getElem?_getD, List.getElem?_append_right (Nat.le_add_right _ _), Nat.add_sub_cancel_left]; rfl
theorem gv4 : (ρ ++ a :: b :: c :: e :: f :: xs).getD (ρ.length + 4) x = f := by rw [List.getD_eq_getElem?_getD, List.getElem?_append_right (Nat.le_add_right _ _), Nat.add_sub_cancel_left]; rfl
theorem gv5 {g : TV} : (ρ ++ a :: b :: c :: e :: f :: g :: xs).getD (ρ.length + 5) x = g := by rw [List.getD_eq_getElem?_getD, List.getElem?_append_right (Nat.le_add_right _ _), Nat.add_sub_cancel_left]; rfl
end
structure PE (ρ : List TV) (ws : List By) (y : Int) (j : Bool) (out : List Gl) : Prop where
 v1 : ∀ xs, (ρ ++ xs).getD 1 (.int 0) = resT
 v5 : ∀ xs, (ρ ++ xs).getD 5 (.int 0) = glsT out
 v7 : ∀ xs, (ρ ++ xs).getD 7 (.int 0) = strs ws
 v8 : ∀ xs, (ρ ++ xs).getD 8 (.int 0) = .int y
 v9 : ∀ xs, (ρ ++ xs).getD 9 (.int 0) = .bool j
theorem PE.ext {ρ : List TV} {ws : List By} {y : Int} {j : Bool} {out : List Gl} (h : PE ρ ws y j out) (zs : List TV) : PE (ρ ++ zs) ws y j out :=
 ⟨fun xs => by rw [List.append_assoc]; exact h.v1 _, fun xs => by rw [List.append_assoc]; exact h.v5 _, fun xs => by rw [List.append_assoc]; exact h.v7 _, fun xs => by rw [List.append_assoc]; exact h.v8 _, fun xs => by rw [List.append_assoc]; exact h.v9 _⟩
theorem PE.v70 {ρ : List TV} {ws : List By} {y : Int} {j : Bool} {out : List Gl} (h : PE ρ ws y j out) : ρ.getD 7 (.int 0) = strs ws := by simpa using h.v7 []
theorem PE.v50 {ρ : List TV} {ws : List By} {y : Int} {j : Bool} {out : List Gl} (h : PE ρ ws y j out) : ρ.getD 5 (.int 0) = glsT out := by simpa using h.v5 []
theorem PE.v90 {ρ : List TV} {ws : List By} {y : Int} {j : Bool} {out : List Gl} (h : PE ρ ws y j out) : ρ.getD 9 (.int 0) = .bool j := by simpa using h.v9 []
theorem nxT_den {R : TV → Prop} {ρ : List TV} {w : By} {t : List By} {y : Int} {j : Bool} {out : List Gl} {L : List (List TV → Prop)} {I3 : List TV → Prop} (pe : PE ρ (w :: t) y j out) (hL : L[3]? = some I3) (h : I3 [.str w]) : Tree.den GE R nxT ρ L := by
 unfold nxT
 refine dbr (fun k => ?_) fun _ => dreq ?_ ⟨I3, hL, ?_⟩
 ·simp only [Tree.den, E.den, P1.den, P2.den, P3.den, TV.cell, ne_eq, forall_eq, Int.reduceToNat, exists_eq_left', qz, pe.v70, zbc, List.map_cons, List.length_map] at k
  omega
 ·simp only [Tree.den, E.den, P1.den, P2.den, P3.den, TV.cell, ne_eq, forall_eq, Int.reduceToNat, exists_eq_left', qz, pe.v70, zbc, List.map_cons, List.length_map]; omega
 ·simp only [Tree.den, E.den, P1.den, P2.den, P3.den, TV.cell, ne_eq, forall_eq, Int.reduceToNat, exists_eq_left', qz, pe.v70, zbc, List.map_cons]; exact h
theorem tkT_den {R : TV → Prop} {ρ : List TV} {ws : List By} {L : List (List TV → Prop)} {I : List TV → Prop} {c : Int} {n r k : Nat} {b : Bool} {o : List Gl} (h7 : ρ.getD 7 (.int 0) = strs ws) (hn : ρ.getD n (.int 0) = .int k) (hr : ρ.getD r (.int 0) = .bool b) (hr1 : ρ.getD (r + 1) (.int 0) = glsT o) (hL : L[2]? = some I)
  (hc : 0 ≤ c) (hk : c.toNat + k ≤ ws.length) (hl : ws.length ≤ 1000000) (h : I [.bool true, strs (ws.drop (c.toNat + k)), .bool b, glsT o]) : Tree.den GE R (tkT c n r) ρ L := by
 have e : IntKind.wrap .i64 (c + (k : Int)) = ((c.toNat + k : Nat) : Int) := by rw [wrap_i64 (by omega) (by omega)]; omega
 have hs : TV.list (((strs ws).asList.drop (c.toNat + k)).take (ws.length - (c.toNat + k))) = strs (ws.drop (c.toNat + k)) := by
  rw [zbc, ← List.map_drop, List.take_of_length_le (by rw [List.length_map, List.length_drop]; omega)]; rfl
 refine dreq ?_ (dreq ?_ ⟨I, hL, ?_⟩)
 ·simp only [Tree.den, E.den, P1.den, P2.den, P3.den, TV.cell, ne_eq, forall_eq, Int.reduceToNat, exists_eq_left', qz, hn, e]; omega
 ·simp only [Tree.den, E.den, P1.den, P2.den, P3.den, TV.cell, ne_eq, forall_eq, Int.reduceToNat, exists_eq_left', qz, hn, e, h7, zgq]; omega
 ·simp only [Tree.den, E.den, P1.den, P2.den, P3.den, TV.cell, ne_eq, forall_eq, Int.reduceToNat, exists_eq_left', qz, hn, e, h7, hr, hr1, zgq, Int.toNat_natCast, hs]; exact h
def cvW (c : Int) (w s : By) : By := if w = cwd 3 then s.map upC else if c = 1 then (s.take 1).map upC ++ s.drop 1 else s
theorem wdT_den {R : TV → Prop} {ρ : List TV} {w : By} {t : List By} {y : Int} {j : Bool} {out : List Gl} {L0 L1 I : List TV → Prop} {c : Int} {d : Nat} (hd : ρ.length = d) (pe : PE ρ (w :: t) y j out) (hc : c = 0 ∨ c = 1) (hl : (w :: t).length ≤ 400000) (hw : ∀ x ∈ w :: t, x.length ≤ 400000)
  (h0 : (qut ((w :: t).drop c.toNat)).2 = 0 → I [.bool false, strs (w :: t), .bool j, glsT out])
  (h1 : (qut ((w :: t).drop c.toNat)).2 ≠ 0 → (txO j out y (cvW c w (qut ((w :: t).drop c.toNat)).1)).length ≤ 1000000 ∧ I [.bool true, strs ((w :: t).drop (c.toNat + (qut ((w :: t).drop c.toNat)).2)), .bool true, glsT (txO j out y (cvW c w (qut ((w :: t).drop c.toNat)).1))]) : Tree.den GE R (wdT c d) ρ [L0, L1, I] := by
 subst hd
 have hlen : (w :: t).length = t.length + 1 := rfl
 have ec : [99, 97, 112, 115] = cwd 3 := rfl
 have hsb : ∀ xs, (sb7 c).den GE (ρ ++ xs) = strs ((w :: t).drop c.toNat) := fun xs => by
  have hs : TV.list (((strs (w :: t)).asList.drop c.toNat).take ((w :: t).length - c.toNat)) = strs ((w :: t).drop c.toNat) := by
   rw [zbc, ← List.map_drop, List.take_of_length_le (by rw [List.length_map, List.length_drop]; omega)]; rfl
  simp only [sb7, Tree.den, E.den, P1.den, P2.den, P3.den, TV.cell, ne_eq, forall_eq, Int.reduceToNat, exists_eq_left', qz, pe.v7, zgq, Int.toNat_natCast]
  exact hs
 have hsb0 : (sb7 c).den GE ρ = strs ((w :: t).drop c.toNat) := by simpa using hsb []
 have hll := literal_len (l := (w :: t).drop c.toNat) (B := 400000) fun x hx => hw x (List.mem_of_mem_drop hx)
 have hle := literal_le ((w :: t).drop c.toNat)
 rw [List.length_drop] at hll hle
 have hsm := literal_sm ((w :: t).drop c.toNat)
 have hlit : ∀ I3 : List TV → Prop, I3 [.str (qut ((w :: t).drop c.toNat)).1, .int (qut ((w :: t).drop c.toNat)).2] → Tree.den GE R (litT ρ.length (sb7 c)) ρ [L0, L1, I, I3] := fun I3 h => litT_den rfl hsb0 hsb pe.v1 (by rw [List.length_drop]; omega) (fun x hx => by have := hw x (List.mem_of_mem_drop hx); omega) h
 rcases hlq : qut ((w :: t).drop c.toNat) with ⟨s, n⟩
 rw [hlq] at h0 h1 hll hle hsm hlit
 dsimp only at h0 h1 hll hle hsm hlit
 have asc_sm : ∀ z : By, (∀ x ∈ z, smB x) → ∀ x ∈ z, x.toNat < 128 := fun z hz x hx => by
  have := UInt8.le_iff_toNat_le.1 (hz x hx).2
  simp at this; omega
 have hlr : ∀ zs : List TV, (ρ ++ zs).length = ρ.length + zs.length := fun zs => List.length_append
 refine dreq ?_ ⟨fun xs => xs = [.str s, .int n], hlit _ rfl, ?_⟩
 ·simp only [Tree.den, E.den, P1.den, P2.den, P3.den, TV.cell, ne_eq, forall_eq, Int.reduceToNat, exists_eq_left', qz, pe.v70, zgq]
  rcases hc with rfl | rfl <;> omega
 rintro xs _ rfl
 have pe1 := pe.ext [.str s, .int n]
 refine dbr (fun hn => ⟨I, rfl, ?_⟩) fun hn => ⟨fun xs => xs = [.str w], nxT_den pe1 rfl rfl, ?_⟩
 ·simp only [Tree.den, E.den, P1.den, P2.den, P3.den, TV.cell, ne_eq, forall_eq, Int.reduceToNat, exists_eq_left', qz, gv1] at hn
  simp only [Tree.den, E.den, P1.den, P2.den, P3.den, TV.cell, ne_eq, forall_eq, Int.reduceToNat, exists_eq_left', qz, pe1.v70, pe1.v90, pe1.v50]
  exact h0 (by omega)
 simp only [Tree.den, E.den, P1.den, P2.den, P3.den, TV.cell, ne_eq, forall_eq, Int.reduceToNat, exists_eq_left', qz, gv1] at hn
 have hn0 : n ≠ 0 := by omega
 obtain ⟨ht1, ht2⟩ := h1 hn0
 obtain ⟨hs0, hs1⟩ := hsm hn0
 rintro xs _ rfl
 have pe2 := pe1.ext [.str w]
 refine dbr (fun h3 => dcall ?_ fun r hr => ?_) fun h3 => ?_
 ·show suppL.pre [E.den GE (ρ ++ [TV.str s, TV.int n] ++ [TV.str w]) (.v ρ.length)]
  simp only [E.den, List.append_assoc, List.cons_append, List.nil_append, gv0]
  exact supp_pre ⟨asc_sm s hs1, by omega⟩
 ·have hr : suppL.post [E.den GE (ρ ++ [TV.str s, TV.int n] ++ [TV.str w]) (.v ρ.length)] r := hr
  simp only [E.den, List.append_assoc, List.cons_append, List.nil_append, gv0] at hr
  have hrv : r = .str (s.map upC) := (supp_all (s := s) (Q := fun r => r = .str (s.map upC))).2 rfl r hr
  subst hrv
  simp only [Tree.den, E.den, P1.den, P2.den, P3.den, TV.cell, ne_eq, forall_eq, Int.reduceToNat, exists_eq_left', qz, List.append_assoc, gv2, ec] at h3
  have ecv : cvW c w s = s.map upC := if_pos h3
  rw [ecv] at ht1 ht2
  have pe3 := pe2.ext [.str (s.map upC)]
  refine ⟨fun xs => xs = [.bool true, glsT (txO j out y (s.map upC))], txT_den (s := s.map upC) (jb := j) (yv := y) (out := out) (by simp only [hlr, List.append_assoc, List.cons_append, List.nil_append]; rfl) rfl rfl pe3.v90 pe3.v8 (fun xs => ?_) pe3.v50 ht1 rfl, ?_⟩
  ·simp only [E.den, List.append_assoc, List.cons_append, List.nil_append, gv3]
  ·rintro xs _ rfl
   have pe4 := pe3.ext [.bool true, glsT (txO j out y (s.map upC))]
   refine tkT_den pe4.v70 (k := n) ?_ ?_ ?_ rfl (by rcases hc with rfl | rfl <;> omega) (by omega) (by omega) ht2
   ·simp only [List.append_assoc, List.cons_append, List.nil_append, gv1]
   ·simp only [List.append_assoc, List.cons_append, List.nil_append, gv4]
   ·simp only [List.append_assoc, List.cons_append, List.nil_append, gv5]
 ·simp only [Tree.den, E.den, P1.den, P2.den, P3.den, TV.cell, ne_eq, forall_eq, Int.reduceToNat, exists_eq_left', qz, List.append_assoc, gv2, ec] at h3
  rcases hc with rfl | rfl
  ·have ecv : cvW 0 w s = s := by unfold cvW; rw [if_neg h3, if_neg (by decide)]
   rw [ecv] at ht1 ht2
   show Tree.den GE R (.join (txT 3 (ρ.length + 3) (.v 9) (.v 5) (.v 8) (.v ρ.length)) 2 (tkT 0 (ρ.length + 1) (ρ.length + 3))) _ _
   refine ⟨fun xs => xs = [.bool true, glsT (txO j out y s)], txT_den (s := s) (jb := j) (yv := y) (out := out) (by simp only [hlr, List.append_assoc, List.cons_append, List.nil_append]; rfl) rfl rfl pe2.v90 pe2.v8 (fun xs => ?_) pe2.v50 ht1 rfl, ?_⟩
   ·simp only [E.den, List.append_assoc, List.cons_append, List.nil_append, gv0]
   ·rintro xs _ rfl
    have pe4 := pe2.ext [.bool true, glsT (txO j out y s)]
    refine tkT_den pe4.v70 (k := n) ?_ ?_ ?_ rfl (by omega) (by omega) (by omega) ht2
    ·simp only [List.append_assoc, List.cons_append, List.nil_append, gv1]
    ·simp only [List.append_assoc, List.cons_append, List.nil_append, gv3]
    ·simp only [List.append_assoc, List.cons_append, List.nil_append, gv4]
  ·have ecv : cvW 1 w s = (s.take 1).map upC ++ s.drop 1 := by unfold cvW; rw [if_neg h3, if_pos rfl]
   rw [ecv] at ht1 ht2
   have hsl : 1 ≤ s.length := List.length_pos_iff.2 hs0
   have htake : (s.drop 0).take (1 - 0) = s.take 1 := rfl
   have hdrop : (s.drop 1).take (s.length - 1) = s.drop 1 := List.take_of_length_le (by rw [List.length_drop]; omega)
   show Tree.den GE R (.req _ (.req _ (.call 5 _ (.req _ (.join _ 2 _))))) _ _
   refine dreq ?_ (dreq ?_ (dcall ?_ fun r hr => dreq ?_ ?_))
   ·simp only [Tree.den, E.den, P1.den, P2.den, P3.den, TV.cell, ne_eq, forall_eq, Int.reduceToNat, exists_eq_left', qz, List.append_assoc, gv0]; omega
   ·simp only [Tree.den, E.den, P1.den, P2.den, P3.den, TV.cell, ne_eq, forall_eq, Int.reduceToNat, exists_eq_left', qz, List.append_assoc, gv0]; omega
   ·show suppL.pre [E.den GE (ρ ++ [TV.str s, TV.int n] ++ [TV.str w]) (.o3 .ssub (.v ρ.length) (.int 0) (.int 1))]
    simp only [Tree.den, E.den, P1.den, P2.den, P3.den, TV.cell, ne_eq, forall_eq, Int.reduceToNat, exists_eq_left', qz, List.append_assoc, List.cons_append, List.nil_append, gv0]
    exact supp_pre ⟨asc_sm _ fun x hx => hs1 x (List.mem_of_mem_take hx), by rw [List.length_take]; omega⟩
   all_goals
    have hr : suppL.post [E.den GE (ρ ++ [TV.str s, TV.int n] ++ [TV.str w]) (.o3 .ssub (.v ρ.length) (.int 0) (.int 1))] r := hr
    simp only [Tree.den, E.den, P1.den, P2.den, P3.den, TV.cell, ne_eq, forall_eq, Int.reduceToNat, exists_eq_left', qz, List.append_assoc, List.cons_append, List.nil_append, gv0] at hr
    have hrv : r = .str ((s.take 1).map upC) := (supp_all (s := s.take 1) (Q := fun r => r = .str ((s.take 1).map upC))).2 rfl r hr
    subst hrv
   ·simp only [Tree.den, E.den, P1.den, P2.den, P3.den, TV.cell, ne_eq, forall_eq, Int.reduceToNat, exists_eq_left', qz, List.append_assoc, List.cons_append, List.nil_append, gv0, gv3, hdrop, List.length_append, List.length_map, List.length_take, List.length_drop]
    omega
   ·have pe3 := pe2.ext [.str ((s.take 1).map upC)]
    refine ⟨fun xs => xs = [.bool true, glsT (txO j out y ((s.take 1).map upC ++ s.drop 1))], txT_den (s := (s.take 1).map upC ++ s.drop 1) (jb := j) (yv := y) (out := out) (by simp only [hlr, List.append_assoc, List.cons_append, List.nil_append]; rfl) rfl rfl pe3.v90 pe3.v8 (fun xs => ?_) pe3.v50 ht1 rfl, ?_⟩
    ·simp only [Tree.den, E.den, P1.den, P2.den, P3.den, TV.cell, ne_eq, forall_eq, Int.reduceToNat, exists_eq_left', qz, List.append_assoc, List.cons_append, List.nil_append, gv0, gv3, Int.toNat_natCast, hdrop]
    ·rintro xs _ rfl
     have pe4 := pe3.ext [.bool true, glsT (txO j out y ((s.take 1).map upC ++ s.drop 1))]
     refine tkT_den pe4.v70 (k := n) ?_ ?_ ?_ rfl (by omega) (by omega) (by omega) ht2
     ·simp only [List.append_assoc, List.cons_append, List.nil_append, gv1]
     ·simp only [List.append_assoc, List.cons_append, List.nil_append, gv4]
     ·simp only [List.append_assoc, List.cons_append, List.nil_append, gv5]
theorem word_cons (w : By) (t : List By) (out : List Gl) (y : Int) (j : Bool) : wordP ⟨w :: t, out, y, j⟩ = if (qut ((w :: t).drop (capN w))).2 = 0 then none else some (txtP ⟨w :: t, out, y, j⟩ (if w = cwd 3 then (qut ((w :: t).drop (capN w))).1.map upC else if capN w = 1 then ((qut ((w :: t).drop (capN w))).1.take 1).map upC ++ (qut ((w :: t).drop (capN w))).1.drop 1 else (qut ((w :: t).drop (capN w))).1) (capN w + (qut ((w :: t).drop (capN w))).2)) := rfl
theorem J10_den {R : TV → Prop} {A X2 X3 X4 X6 : TV} {w : By} {t : List By} {y : Int} {j : Bool} {out : List Gl} {L0 L1 I : List TV → Prop} (hl : (w :: t).length ≤ 400000) (hw : ∀ x ∈ w :: t, x.length ≤ 400000)
  (h0 : wordP ⟨w :: t, out, y, j⟩ = none → I [.bool false, strs (w :: t), .bool j, glsT out])
  (h1 : ∀ q, wordP ⟨w :: t, out, y, j⟩ = some q → q.out.length ≤ 1000000 ∧ I [.bool true, strs q.ws, .bool q.j, glsT q.out]) : Tree.den GE R qyi [A, resT, X2, X3, X4, glsT out, X6, strs (w :: t), .int y, .bool j] [L0, L1, I] := by
 rw [J10_eq]
 have e2 : [99, 97, 112] = cwd 2 := rfl
 have e3 : [99, 97, 112, 115] = cwd 3 := rfl
 have n23 : cwd 2 ≠ cwd 3 := by decide
 have pe : PE [A, resT, X2, X3, X4, glsT out, X6, strs (w :: t), .int y, .bool j] (w :: t) y j out := ⟨fun _ => rfl, fun _ => rfl, fun _ => rfl, fun _ => rfl, fun _ => rfl⟩
 have key : ∀ (c : Int) (hc : c = 0 ∨ c = 1) (hcw : c.toNat = capN w) (zs : List TV) (d : Nat), ([A, resT, X2, X3, X4, glsT out, X6, strs (w :: t), .int y, .bool j] ++ zs).length = d → Tree.den GE R (wdT c d) ([A, resT, X2, X3, X4, glsT out, X6, strs (w :: t), .int y, .bool j] ++ zs) [L0, L1, I] := by
  intro c hc hcw zs d hd
  have hcv : ∀ s, cvW c w s = if w = cwd 3 then s.map upC else if capN w = 1 then (s.take 1).map upC ++ s.drop 1 else s := fun s => by
   unfold cvW
   have e : c = 1 ↔ capN w = 1 := by omega
   simp only [e]
  refine wdT_den hd (pe.ext zs) hc hl hw (fun h => h0 ?_) fun h => ?_
  ·rw [word_cons, ← hcw, if_pos h]
  ·have := h1 _ (by rw [word_cons, ← hcw, if_neg h])
   simp only [txtP] at this
   rw [hcv, ← hcw]
   exact this
 refine ⟨fun xs => xs = [.str w], nxT_den pe rfl rfl, ?_⟩
 rintro xs _ rfl
 refine dbr (fun h => ?_) fun h => ⟨fun xs => xs = [.str w], nxT_den (pe.ext _) rfl rfl, ?_⟩
 ·have h : w = cwd 2 := (by simpa [E.den, P2.den, TV.asBool, TV.asStr] using h : w = ([99, 97, 112] : List UInt8))
  exact key 1 (.inr rfl) (by unfold capN; rw [if_pos (.inl h)]; rfl) [.str w] 11 rfl
 ·have h : ¬ w = cwd 2 := (by simpa [E.den, P2.den, TV.asBool, TV.asStr] using h : ¬ w = ([99, 97, 112] : List UInt8))
  rintro xs _ rfl
  refine dbr (fun k => ?_) fun k => ?_
  ·have k : w = cwd 3 := (by simpa [E.den, P2.den, TV.asBool, TV.asStr] using k : w = ([99, 97, 112, 115] : List UInt8))
   exact key 1 (.inr rfl) (by unfold capN; rw [if_pos (.inr k)]; rfl) [.str w, .str w] 12 rfl
  ·have k : ¬ w = cwd 3 := (by simpa [E.den, P2.den, TV.asBool, TV.asStr] using k : ¬ w = ([99, 97, 112, 115] : List UInt8))
   exact key 0 (.inl rfl) (by unfold capN; rw [if_neg (fun z => z.elim h k)]; rfl) [.str w, .str w] 12 rfl
end Go.Proofs.YtlhagkbhojmjpaaGreatDoor
