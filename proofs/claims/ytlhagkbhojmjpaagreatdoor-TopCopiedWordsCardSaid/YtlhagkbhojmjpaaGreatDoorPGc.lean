/- Written by this repo's own program out of its texts. -/
import Derived.Test.YtlhagkbhojmjpaaGreatDoorPGb
set_option linter.unusedSimpArgs false
set_option linter.unusedVariables false
set_option linter.unusedSectionVars false
namespace Go.Proofs.YtlhagkbhojmjpaaGreatDoor
theorem enc_dig : ∀ k : Fin 10, (Utf8.encode (48 + (k.val : Int))).data.toList = [(48 + k.val).toUInt8] := by decide +kernel
theorem enc_digit {n : Nat} (h : n ≤ 9) : (Utf8.encode (IntKind.wrap .i32 (IntKind.wrap .i64 (48 + (n : Int))))).data.toList = [(48 + n).toUInt8] := by
 rw [wrap_i64 (by omega) (by omega), zax (by omega) (by omega)]
 have h2 := enc_dig ⟨n, by omega⟩
 dsimp only at h2
 exact h2
def enT (d : Nat) : Tree := .br (.o2 .eqs (.v 15) (.str [])) (.back 2 [(.bool false), (.v 11), (.v 12), (.v 13)])
 (.join (txT 4 d (.v 12) (.v 13) (.v 8) (.v 15)) 2 (.req (.o2 .lei (.int 0) (.v 16)) (.req (.o2 .lei (.v 16) (.o1 .len (.v 11))) (.back 2 [(.bool true), (.o3 .sub (.v 11) (.v 16) (.o1 .len (.v 11))), (.v d), (.v (d + 1))]))))
def figB : Tree := .br (.o1 .no (.o2 .eqi (.o1 (.proj 1) (.v 17)) (.int 0))) (enT 18)
 (.br (.o2 .lti (.o1 (.proj 0) (.v 17)) (.int 0)) (enT 18)
  (.br (.o2 .lti (.int 9) (.o1 (.proj 0) (.v 17))) (enT 18)
   (.req (.o2 .lei (.o1 .slen (.o2 .cat (.v 15) (.o1 .ofRune (.o1 (.wrap .i32) (.o2 (.add .i64) (.int 48) (.o1 (.proj 0) (.v 17))))))) (.int 9223372036854775807)) (.back 3 [(.o2 .cat (.v 15) (.o1 .ofRune (.o1 (.wrap .i32) (.o2 (.add .i64) (.int 48) (.o1 (.proj 0) (.v 17)))))), (.o2 (.add .i64) (.v 16) (.int 1))]))))
def figT : Tree := .join (.br (.o2 .eqi (.o1 .len (.v 11)) (.int 0)) (.back 3 [(.str [])]) (.req (.o2 .lti (.int 0) (.o1 .len (.v 11))) (.back 3 [(.o2 .idx (.v 11) (.int 0))])))
 1 (.br (.o1 .no (.o2 .eqs (.v 14) (.str [100, 105, 103, 105, 116, 115])))
  (.back 2 [(.bool false), (.v 11), (.v 12), (.v 13)])
  (.loop [(.str []), (.int 1)]
   (.br (.o2 .lti (.v 16) (.o1 .len (.v 11)))
    (.req (.o2 .lei (.int 0) (.v 16)) (.req (.o2 .lei (.v 16) (.o2 (.add .i64) (.v 16) (.int 1))) (.req (.o2 .lei (.int 0) (.o2 (.add .i64) (.v 16) (.int 1))) (.req (.o2 .lei (.o2 (.add .i64) (.v 16) (.int 1)) (.o1 .len (.v 11))) (.call 0 [(.o3 .sub (.v 11) (.v 16) (.o2 (.add .i64) (.v 16) (.int 1)))]
     figB)))))
    (enT 17))))
set_option maxRecDepth 100000 in
theorem J13_eq : qx4 = figT := by kernel_rfl
theorem enT_den {R : TV → Prop} {A X2 X3 X4 X5 X6 X7 X9 X10 X14 : TV} {ws : List By} {y : Int} {j : Bool} {out : List Gl} {s : By} {i : Nat} {zs : List TV} {d : Nat} {L0 L1 I P : List TV → Prop} (hd : 17 + zs.length = d) (hi : i ≤ ws.length) (hl : ws.length ≤ 400000)
  (h0 : s = [] → I [.bool false, strs ws, .bool j, glsT out]) (h1 : s ≠ [] → (txO j out y s).length ≤ 1000000 ∧ I [.bool true, strs (ws.drop i), .bool true, glsT (txO j out y s)]) :
  Tree.den GE R (enT d) ([A, resT, X2, X3, X4, X5, X6, X7, .int y, X9, X10, strs ws, .bool j, glsT out, X14, .str s, .int i] ++ zs) [L0, L1, I, P] := by
 obtain ⟨ρ, hρ⟩ : ∃ ρ, ρ = [A, resT, X2, X3, X4, X5, X6, X7, .int y, X9, X10, strs ws, .bool j, glsT out, X14, .str s, .int i] ++ zs := ⟨_, rfl⟩
 have v8 : ∀ xs, (ρ ++ xs).getD 8 (.int 0) = .int y := fun xs => by rw [hρ]; rfl
 have v11 : ∀ xs, (ρ ++ xs).getD 11 (.int 0) = strs ws := fun xs => by rw [hρ]; rfl
 have v15 : ∀ xs, (ρ ++ xs).getD 15 (.int 0) = .str s := fun xs => by rw [hρ]; rfl
 have v16 : ∀ xs, (ρ ++ xs).getD 16 (.int 0) = .int i := fun xs => by rw [hρ]; rfl
 have v11' : ρ.getD 11 (.int 0) = strs ws := by rw [hρ]; rfl
 have v12' : ρ.getD 12 (.int 0) = .bool j := by rw [hρ]; rfl
 have v13' : ρ.getD 13 (.int 0) = glsT out := by rw [hρ]; rfl
 have v15' : ρ.getD 15 (.int 0) = .str s := by rw [hρ]; rfl
 have hd : ρ.length = d := by rw [hρ, List.length_append, ← hd]; rfl
 rw [← hρ]
 clear hρ
 subst hd
 have hs : TV.list (((strs ws).asList.drop i).take (ws.length - i)) = strs (ws.drop i) := by
  rw [zbc, ← List.map_drop, List.take_of_length_le (by rw [List.length_map, List.length_drop]; omega)]; rfl
 refine dbr (fun h => ⟨I, rfl, ?_⟩) fun h => ?_
 ·simp only [Tree.den, E.den, P1.den, P2.den, P3.den, TV.cell, ne_eq, forall_eq, Int.reduceToNat, exists_eq_left', qz, v15'] at h
  simp only [Tree.den, E.den, P1.den, P2.den, P3.den, TV.cell, ne_eq, forall_eq, Int.reduceToNat, exists_eq_left', qz, v11', v12', v13']
  exact h0 h
 ·simp only [Tree.den, E.den, P1.den, P2.den, P3.den, TV.cell, ne_eq, forall_eq, Int.reduceToNat, exists_eq_left', qz, v15'] at h
  obtain ⟨ht, hI⟩ := h1 h
  refine ⟨fun xs => xs = [.bool true, glsT (txO j out y s)], txT_den (s := s) (jb := j) (yv := y) (out := out) rfl rfl rfl v12' v8 v15 v13' ht rfl, ?_⟩
  rintro xs _ rfl
  refine dreq ?_ (dreq ?_ ⟨I, rfl, ?_⟩)
  ·simp only [Tree.den, E.den, P1.den, P2.den, P3.den, TV.cell, ne_eq, forall_eq, Int.reduceToNat, exists_eq_left', qz, v16]; omega
  ·simp only [Tree.den, E.den, P1.den, P2.den, P3.den, TV.cell, ne_eq, forall_eq, Int.reduceToNat, exists_eq_left', qz, v16, v11, zgq]; omega
  ·simp only [Tree.den, E.den, P1.den, P2.den, P3.den, TV.cell, ne_eq, forall_eq, Int.reduceToNat, exists_eq_left', qz, v16, v11, zgq, Int.toNat_natCast, hs, gv0, gv1]
   exact hI
def FgI (w : By) (t : List By) (xs : List TV) : Prop := ∃ (i : Nat) (s : By), xs = [.str s, .int i] ∧ 1 ≤ i ∧ i ≤ (w :: t).length ∧ s.length ≤ i ∧ figN t [] 1 = figN ((w :: t).drop i) s i
def Fgm (l : List By) (xs : List TV) : Nat := l.length - (xs.getD 1 (.int 0)).asInt.toNat
theorem fig_cons (w : By) (l : List By) (s : By) (i : Nat) : figN (w :: l) s i = match numZ [w] with
  | some d => if 0 ≤ d ∧ d ≤ 9 then figN l (s ++ [(48 + d.toNat).toUInt8]) (i + 1) else (s, i)
  | none => (s, i) := rfl
theorem J13_den {R : TV → Prop} {A X2 X3 X4 X5 X6 X7 X9 X10 : TV} {w : By} {t : List By} {y : Int} {j : Bool} {out : List Gl} {L0 L1 I : List TV → Prop} (hl : (w :: t).length ≤ 400000)
  (h0 : qux ⟨w :: t, out, y, j⟩ = none → I [.bool false, strs (w :: t), .bool j, glsT out])
  (h1 : ∀ q, qux ⟨w :: t, out, y, j⟩ = some q → q.out.length ≤ 1000000 ∧ I [.bool true, strs q.ws, .bool q.j, glsT q.out]) :
  Tree.den GE R qx4 [A, resT, X2, X3, X4, X5, X6, X7, .int y, X9, X10, strs (w :: t), .bool j, glsT out] [L0, L1, I] := by
 rw [J13_eq]
 have hlen : (w :: t).length = t.length + 1 := rfl
 have e9 : ([100, 105, 103, 105, 116, 115] : List UInt8) = cwd 9 := rfl
 refine ⟨fun xs => xs = [.str w], dbr (fun h => ?_) fun _ => dreq ?_ ⟨_, rfl, rfl⟩, ?_⟩
 ·simp only [E.den, P2.den, P1.den, List.getD_cons_succ, List.getD_cons_zero, zgq, TV.asBool, zac, beq_iff_eq] at h
  omega
 ·simp only [E.den, P2.den, P1.den, List.getD_cons_succ, List.getD_cons_zero, zgq, TV.asBool, zac, decide_eq_true_eq]
  omega
 rintro xs _ rfl
 refine dbr (fun h => ⟨I, rfl, ?_⟩) fun h => ?_
 ·have h : ¬ w = ([100, 105, 103, 105, 116, 115] : List UInt8) := by simpa [E.den, P2.den, P1.den, TV.asBool, TV.asStr] using h
  exact h0 (if_neg h)
 have h : w = ([100, 105, 103, 105, 116, 115] : List UInt8) := by simpa [E.den, P2.den, P1.den, TV.asBool, TV.asStr] using h
 have h9 : w = cwd 9 := h
 have hf : qux ⟨w :: t, out, y, j⟩ = if (figN t [] 1).1 = [] then none else some (txtP ⟨w :: t, out, y, j⟩ (figN t [] 1).1 (figN t [] 1).2) := if_pos h9
 have hend : ∀ (s : By) (i : Nat) (zs : List TV) (d : Nat) (P : List TV → Prop), figN t [] 1 = (s, i) → i ≤ (w :: t).length → 17 + zs.length = d → Tree.den GE R (enT d) ([A, resT, X2, X3, X4, X5, X6, X7, .int y, X9, X10, strs (w :: t), .bool j, glsT out, .str w, .str s, .int i] ++ zs) [L0, L1, I, P] := by
  intro s i zs d P he hi hd
  rw [he] at hf
  dsimp only at hf
  refine enT_den hd hi hl (fun hs => h0 (by rw [hf, if_pos hs])) fun hs => ?_
  have := h1 _ (by rw [hf, if_neg hs])
  exact this
 clear h0 h1 hf
 refine ⟨FgI w t, Fgm (w :: t), ⟨1, [], rfl, Nat.le_refl _, by omega, by show 0 ≤ 1; omega, by rw [List.drop_succ_cons, List.drop_zero]⟩, ?_⟩
 rintro xs _ ⟨i, s, rfl, hi1, hi2, hsl, he⟩
 have ew : IntKind.wrap .i64 ((i : Int) + 1) = ((i + 1 : Nat) : Int) := by rw [wrap_i64 (by omega) (by omega)]; omega
 refine dbr (fun hlt => ?_) fun hn => ?_
 ·have hlt : i < (w :: t).length := by
   simp only [E.den, P2.den, P1.den, List.cons_append, List.nil_append, List.getD_cons_succ, List.getD_cons_zero, zgq, TV.asBool, zac, decide_eq_true_eq] at hlt
   omega
  have hsub : (List.drop i (TV.str w :: List.map TV.str t)).take (i + 1 - i) = [TV.str (sg (w :: t) i)] := by
   rw [← List.map_cons, ← List.map_drop, sdrop hlt, Nat.add_sub_cancel_left]; rfl
  have hv : ∀ r, Tree.den GE R figB ([A, resT, X2, X3, X4, X5, X6, X7, .int y, X9, X10, strs (w :: t), .bool j, glsT out, .str w, .str s, .int i] ++ [r]) [L0, L1, I, fun ys => FgI w t ys ∧ Fgm (w :: t) ys < Fgm (w :: t) [.str s, .int i]] ∨ r ≠ numT [sg (w :: t) i] := by
   intro r
   by_cases hr : r = numT [sg (w :: t) i]
   ·refine .inl ?_
    rw [sdrop hlt, fig_cons] at he
    subst hr
    unfold numT
    cases hz : numZ [sg (w :: t) i] with
    | none =>
     rw [hz] at he
     refine dbr (fun _ => hend s i _ 18 _ he hi2 rfl) fun h => ?_
     exact Bool.noConfusion (show true = false from h)
    | some n =>
     rw [hz] at he
     dsimp only at he ⊢
     have hnb := numZ_bd hz
     refine dbr (fun h => Bool.noConfusion (show false = true from h)) fun _ => dbr (fun h => ?_) fun h => dbr (fun h' => ?_) fun h' => dreq ?_ ⟨_, rfl, ?_⟩
     all_goals
      simp only [E.den, P2.den, P1.den, List.cons_append, List.nil_append, List.getD_cons_succ, List.getD_cons_zero, TV.asBool, TV.cell, zae, zac, decide_eq_true_eq, decide_eq_false_iff_not] at h
     ·rw [if_neg (by omega)] at he
      exact hend s i _ 18 _ he hi2 rfl
     all_goals
      simp only [E.den, P2.den, P1.den, List.cons_append, List.nil_append, List.getD_cons_succ, List.getD_cons_zero, TV.asBool, TV.cell, zae, zac, decide_eq_true_eq, decide_eq_false_iff_not] at h'
     ·rw [if_neg (by omega)] at he
      exact hend s i _ 18 _ he hi2 rfl
     all_goals
      obtain ⟨m, rfl⟩ : ∃ m : Nat, n = m := ⟨n.toNat, by omega⟩
      rw [if_pos (by omega)] at he
      have hm9 : m ≤ 9 := by omega
     ·simp only [Tree.den, E.den, P1.den, P2.den, P3.den, TV.cell, ne_eq, forall_eq, Int.reduceToNat, exists_eq_left', qz, List.cons_append, List.nil_append, enc_digit hm9, List.length_append, List.length_singleton]
      omega
     ·simp only [Tree.den, E.den, P1.den, P2.den, P3.den, TV.cell, ne_eq, forall_eq, Int.reduceToNat, exists_eq_left', qz, List.cons_append, List.nil_append, enc_digit hm9, ew]
      refine ⟨⟨i + 1, _, rfl, by omega, by omega, by rw [List.length_append]; exact Nat.succ_le_succ hsl, he⟩, ?_⟩
      simp only [Fgm, List.getD_cons_zero, List.getD_cons_succ, zac]; omega
   ·exact .inr hr
  refine dreq ?_ (dreq ?_ (dreq ?_ (dreq ?_ (dcall ?_ fun r hr => ?_))))
  ·simp only [Tree.den, E.den, P1.den, P2.den, P3.den, TV.cell, ne_eq, forall_eq, Int.reduceToNat, exists_eq_left', qz, List.cons_append, List.nil_append]; omega
  ·simp only [Tree.den, E.den, P1.den, P2.den, P3.den, TV.cell, ne_eq, forall_eq, Int.reduceToNat, exists_eq_left', qz, List.cons_append, List.nil_append, ew]; omega
  ·simp only [Tree.den, E.den, P1.den, P2.den, P3.den, TV.cell, ne_eq, forall_eq, Int.reduceToNat, exists_eq_left', qz, List.cons_append, List.nil_append, ew]; omega
  ·simp only [Tree.den, E.den, P1.den, P2.den, P3.den, TV.cell, ne_eq, forall_eq, Int.reduceToNat, exists_eq_left', qz, List.cons_append, List.nil_append, ew, zgq]; omega
  all_goals
   have hx : (E.o3 P3.sub (.v 11) (.v 16) (.o2 (.add .i64) (.v 16) (.int 1))).den GE ([A, resT, X2, X3, X4, X5, X6, X7, .int y, X9, X10, strs (w :: t), .bool j, glsT out] ++ [.str w] ++ [.str s, .int i]) = strs [sg (w :: t) i] := by
    simp only [Tree.den, E.den, P1.den, P2.den, P3.den, TV.cell, ne_eq, forall_eq, Int.reduceToNat, exists_eq_left', qz, List.cons_append, List.nil_append, ew, zbc, Int.toNat_natCast, hsub]; rfl
  ·show nnumL.pre [_]
   dsimp only
   rw [hx]
   exact nnum_pre trivial
  ·have hr : nnumL.post [(E.o3 P3.sub (.v 11) (.v 16) (.o2 (.add .i64) (.v 16) (.int 1))).den GE ([A, resT, X2, X3, X4, X5, X6, X7, .int y, X9, X10, strs (w :: t), .bool j, glsT out] ++ [.str w] ++ [.str s, .int i])] r := hr
   rw [hx] at hr
   have hrv : r = numT [sg (w :: t) i] := (nnum_all (l := [sg (w :: t) i]) (Q := fun r => r = numT [sg (w :: t) i])).2 rfl r hr
   exact (hv r).elim id fun k => absurd hrv k
 ·have hn : ¬ i < (w :: t).length := by
   simp only [E.den, P2.den, P1.den, List.cons_append, List.nil_append, List.getD_cons_succ, List.getD_cons_zero, zgq, TV.asBool, zac, decide_eq_false_iff_not] at hn
   omega
  rw [List.drop_of_length_le (by omega)] at he
  have := hend s i [] 17 (fun ys => FgI w t ys ∧ Fgm (w :: t) ys < Fgm (w :: t) [.str s, .int i]) he hi2 rfl
  exact this
end Go.Proofs.YtlhagkbhojmjpaaGreatDoor
