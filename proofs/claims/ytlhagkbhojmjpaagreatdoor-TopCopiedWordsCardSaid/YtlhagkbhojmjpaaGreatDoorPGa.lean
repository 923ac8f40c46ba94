/- Written by this repo's own program out of its texts. -/
import Derived.Test.YtlhagkbhojmjpaaGreatDoorPSh
import Derived.Test.YtlhagkbhojmjpaaGreatDoorPG1
set_option linter.unusedSimpArgs false
set_option linter.unusedVariables false
set_option linter.unusedSectionVars false
namespace Go.Proofs.YtlhagkbhojmjpaaGreatDoor
noncomputable def GE : CEnv := mkEnv globT [nnumL, nprefL, attachL, widthL, encL, suppL, srsvL, splainL, sidxL, scharL]
section
variable {ρ : List TV} {x a b c : TV} {xs : List TV}
theorem gv0 : (ρ ++ a :: xs).getD ρ.length x = a := by rw [List.getD_eq_getElem?_getD, List.getElem?_append_right (Nat.le_refl _), Nat.sub_self]; rfl
theorem gv1 : (ρ ++ a :: b :: xs).getD (ρ.length + 1) x = b := by rw [List.getD_eq_getElem?_getD, List.getElem?_append_right (Nat.le_add_right _ _), Nat.add_sub_cancel_left]; rfl
theorem gv2 : (ρ ++ a :: b :: c :: xs).getD (ρ.length + 2) x = c := by rw [List.getD_eq_getElem?_getD, List.getElem?_append_right (Nat.le_add_right _ _), Nat.add_sub_cancel_left]; rfl
theorem gv2' : (ρ ++ a :: b :: c :: xs).getD (ρ.length + 1 + 1) x = c := gv2
end
def SlI (t : List By) (l : List By) (xs : List TV) : Prop := ∃ (i : Nat) (s : By), xs = [.str s, .int i] ∧ 1 ≤ i ∧ i ≤ l.length ∧ s.length ≤ i ∧ qui t [] 1 = qui (l.drop i) s i
def Slm (l : List By) (xs : List TV) : Nat := l.length - (xs.getD 1 (.int 0)).asInt.toNat
theorem sp_cons (w : By) (l : List By) (s : By) (i : Nat) : qui (w :: l) s i = if w = cwd 8 ∧ s ≠ [] then (s, i + 1) else if qvh w = false ∨ w.length ≠ 1 then ([], 0) else qui l (s ++ w) (i + 1) := rfl
theorem sp_den {R : TV → Prop} {ρ : List TV} {L0 L1 I I3 : List TV → Prop} {d : Nat} {sb : E} {w : By} {t : List By} (hd : ρ.length = d) (hsb0 : sb.den GE ρ = strs (w :: t)) (hsb : ∀ xs, sb.den GE (ρ ++ xs) = strs (w :: t))
  (hl : (w :: t).length ≤ 1000000) (hw : ∀ x ∈ w :: t, x.length ≤ 1000000) (h : I3 [.str (if w = cwd 7 then qui t [] 1 else ([], 0)).1, .int (if w = cwd 7 then qui t [] 1 else ([], 0)).2]) : (spT d sb).den GE R ρ [L0, L1, I, I3] := by
 subst hd
 have hlen : (w :: t).length = t.length + 1 := rfl
 have e7 : [115, 112, 101, 108, 108, 101, 100] = cwd 7 := rfl
 have e8 : [101, 110, 100] = cwd 8 := rfl
 simp only [spT, spC, rq0, rqi, ltNo, i0, GE]
 simp only [GE] at hsb hsb0
 simp only [Tree.den, E.den, P1.den, P2.den, P3.den, TV.cell, ne_eq, forall_eq, Int.reduceToNat, exists_eq_left', qz, hsb, hsb0, gv0, gv1, gv2, gv2', List.append_assoc, zbc, List.length_map, splain_all, e7, e8]
 refine ⟨by omega, fun h7 => ⟨SlI t (w :: t), Slm (w :: t), ⟨1, [], rfl, Nat.le_refl _, by omega, by simp, by rw [List.drop_succ_cons, List.drop_zero]⟩, ?_⟩, fun h7 => ?_⟩
 ·rw [if_pos h7] at h
  rintro xs _ ⟨i, s, rfl, hi1, hi2, hsl, he⟩
  have ew : IntKind.wrap .i64 ((i : Int) + 1) = ((i + 1 : Nat) : Int) := by rw [wrap_i64 (by omega) (by omega)]; omega
  have hz : ∀ z, decide ((0 : Int) ≤ ((z : Nat) : Int)) = true := fun z => decide_eq_true (by omega)
  have hmp : TV.str w :: List.map TV.str t = List.map TV.str (w :: t) := rfl
  simp only [gv0, gv1, gv2, gv2', zac, zad, zab, List.cons_append, List.nil_append, ew, hz, Int.toNat_natCast, hmp]
  refine ⟨fun hlt => ?_, fun hn => ?_⟩
  ·have hlt : i < (w :: t).length := by omega
   have hsg := sgetD hlt
   rw [hsg]
   rw [sdrop hlt, sp_cons] at he
   have hwb := hw _ (by unfold sg; rw [List.getD_eq_getElem?_getD, List.getElem?_eq_getElem hlt]; exact List.getElem_mem _ : sg (w :: t) i ∈ w :: t)
   generalize sg (w :: t) i = v at *
   simp only [zad]
   refine ⟨by simp, by omega, fun h8 => ⟨fun hne => ?_, fun hne => ?_⟩, fun h8 => ?_⟩
   ·rw [if_pos ⟨h8, hne⟩] at he
    rw [he] at h
    exact h
   all_goals
    rw [if_neg (fun k => by first | exact k.2 hne | exact h8 k.1)] at he
    simp only [splain_all]
    refine ⟨by simp, by omega, splain_pre hwb, fun hp => ?_, fun hp => ⟨by omega, by omega, fun h1 => ?_, fun h1 => ⟨by omega, by omega, by rw [List.length_append]; omega, ⟨i + 1, s ++ v, rfl, by omega, by omega, by rw [List.length_append]; omega, ?_⟩, ?_⟩⟩⟩
    ·rw [if_pos (.inl hp)] at he
     rw [he] at h
     exact h
    ·rw [if_pos (.inr (by omega))] at he
     rw [he] at h
     exact h
    ·rw [if_neg (fun k => k.elim (fun k => by have hp' : qvh v = true := hp; rw [hp'] at k; cases k) (fun k => k (by omega)))] at he
     exact he
    ·simp only [Slm, List.getD_cons_zero, List.getD_cons_succ, zac]; omega
  ·rw [List.drop_of_length_le (by omega)] at he
   rw [he] at h
   exact h
 ·rw [if_neg h7] at h
  exact h
theorem pl_den {R : TV → Prop} {ρ : List TV} {L0 L1 I I3 : List TV → Prop} {d : Nat} {sb : E} {w : By} {t : List By} (hd : ρ.length = d) (hsb0 : sb.den GE ρ = strs (w :: t)) (hsb : ∀ xs, sb.den GE (ρ ++ xs) = strs (w :: t)) (hv1 : ∀ xs, (ρ ++ xs).getD 1 (.int 0) = resT)
  (hl : (w :: t).length ≤ 1000000) (hw : ∀ x ∈ w :: t, x.length ≤ 1000000) (h : I3 [.str (if qvh w = true ∧ resB w = false then (w, 1) else if w = cwd 7 then qui t [] 1 else ([], 0)).1, .int (if qvh w = true ∧ resB w = false then (w, 1) else if w = cwd 7 then qui t [] 1 else ([], 0)).2]) : (plT d sb).den GE R ρ [L0, L1, I, I3] := by
 subst hd
 have hlen : (w :: t).length = t.length + 1 := rfl
 have hsp : ∀ r, ¬ (qvh w = true ∧ resB w = false) → (spT (ρ.length + 1) sb).den GE R (ρ ++ [r]) [L0, L1, I, I3] := fun r hn => by
  rw [if_neg hn] at h
  exact sp_den (by rw [List.length_append]; rfl) (hsb [r]) (fun xs => by rw [List.append_assoc]; exact hsb _) hl hw h
 have hv : ∀ r, (ρ ++ [r]).getD ρ.length (.int 0) = r := fun r => gv0
 refine dreq ?_ (dcall ?_ fun r hr => dbr (fun hp => dreq ?_ (dbr (fun hr2 => dreq ?_ ?_) fun hr2 => hsp r ?_)) fun hp => hsp r ?_)
 ·simp only [Tree.den, E.den, P1.den, P2.den, P3.den, TV.cell, ne_eq, forall_eq, Int.reduceToNat, exists_eq_left', qz, hsb0, zbc, List.length_map]; omega
 ·show splainL.pre [(i0 sb).den GE ρ]
  simp only [i0, Tree.den, E.den, P1.den, P2.den, P3.den, TV.cell, ne_eq, forall_eq, Int.reduceToNat, exists_eq_left', qz, hsb0, zbc]
  exact splain_pre (hw w (.head _))
 all_goals
  have hr : splainL.post [(i0 sb).den GE ρ] r := hr
  have hi0 : (i0 sb).den GE ρ = .str w := by simp only [i0, Tree.den, E.den, P1.den, P2.den, P3.den, TV.cell, ne_eq, forall_eq, Int.reduceToNat, exists_eq_left', qz, hsb0, zbc]
  rw [hi0] at hr
  have hrv : r = .bool (qvh w) := by
   have := (splain_all (s := w) (Q := fun r => r = .bool (qvh w))).2 rfl
   exact this r hr
  subst hrv
  have hp : (E.den GE (ρ ++ [TV.bool (qvh w)]) (.v ρ.length)).asBool = _ := hp
  simp only [E.den, hv, zab] at hp
 ·simp only [Tree.den, E.den, P1.den, P2.den, P3.den, TV.cell, ne_eq, forall_eq, Int.reduceToNat, exists_eq_left', qz, hsb, zbc, List.length_map]; omega
 ·simp only [Tree.den, E.den, P1.den, P2.den, P3.den, TV.cell, ne_eq, forall_eq, Int.reduceToNat, exists_eq_left', qz, hsb, zbc, List.length_map]; omega
 ·have hr2 : resB w = false := by
   simpa only [Tree.den, E.den, P1.den, P2.den, P3.den, TV.cell, ne_eq, forall_eq, Int.reduceToNat, exists_eq_left', qz, i0, hv1, mget_res, hsb, zbc, List.map_cons, List.getD_cons_zero] using hr2
  rw [if_pos ⟨hp, hr2⟩] at h
  refine ⟨I3, rfl, ?_⟩
  simp only [i0, Tree.den, E.den, P1.den, P2.den, P3.den, TV.cell, ne_eq, forall_eq, Int.reduceToNat, exists_eq_left', qz, hsb, zbc]
  exact h
 ·rintro ⟨_, k⟩
  simp only [Tree.den, E.den, P1.den, P2.den, P3.den, TV.cell, ne_eq, forall_eq, Int.reduceToNat, exists_eq_left', qz, i0, hv1, mget_res, hsb, zbc, List.map_cons, List.getD_cons_zero] at hr2
  rw [hr2] at k; cases k
 ·rintro ⟨k, _⟩
  rw [hp] at k; cases k
theorem litT_den {R : TV → Prop} {ρ : List TV} {L0 L1 I I3 : List TV → Prop} {d : Nat} {sb : E} {l : List By} (hd : ρ.length = d) (hsb0 : sb.den GE ρ = strs l) (hsb : ∀ xs, sb.den GE (ρ ++ xs) = strs l) (hv1 : ∀ xs, (ρ ++ xs).getD 1 (.int 0) = resT)
  (hl : l.length ≤ 1000000) (hw : ∀ x ∈ l, x.length ≤ 1000000) (h : I3 [.str (qut l).1, .int (qut l).2]) : (litT d sb).den GE R ρ [L0, L1, I, I3] := by
 have e4 : [119, 111, 114, 100] = cwd 4 := rfl
 cases l with
 | nil =>
  refine dbr (fun _ => ⟨I3, rfl, h⟩) fun hn => ?_
  simp only [Tree.den, E.den, P1.den, P2.den, P3.den, TV.cell, ne_eq, forall_eq, Int.reduceToNat, exists_eq_left', qz, hsb0, zbc, List.map_nil] at hn
  exact absurd rfl hn
 | cons w t =>
  subst hd
  rw [qvk] at h
  have hpl : ¬ (w = cwd 4 ∧ t ≠ [] ∧ qvh (t.headD []) = true) → ∀ xs d, (ρ ++ xs).length = d → (plT d sb).den GE R (ρ ++ xs) [L0, L1, I, I3] := fun hn xs d hd => by
   rw [if_neg hn] at h
   exact pl_den hd (hsb xs) (fun ys => by rw [List.append_assoc]; exact hsb _) (fun ys => by rw [List.append_assoc]; exact hv1 _) hl hw h
  have hpl0 : ¬ (w = cwd 4 ∧ t ≠ [] ∧ qvh (t.headD []) = true) → (plT ρ.length sb).den GE R ρ [L0, L1, I, I3] := fun hn => by
   have := hpl hn [] ρ.length (by rw [List.append_nil])
   rwa [List.append_nil] at this
  have hv : ∀ r, (ρ ++ [r]).getD ρ.length (.int 0) = r := fun r => gv0
  refine dbr (fun hn => ?_) fun _ => dreq ?_ (dbr (fun h4 => dbr (fun h1 => dreq ?_ (dcall ?_ fun r hr => dbr (fun hp => dreq ?_ ?_) fun hp => ?_)) fun h1 => ?_) fun h4 => ?_)
  ·simp only [Tree.den, E.den, P1.den, P2.den, P3.den, TV.cell, ne_eq, forall_eq, Int.reduceToNat, exists_eq_left', qz, hsb0, zbc, List.length_map] at hn
   omega
  ·simp only [Tree.den, E.den, P1.den, P2.den, P3.den, TV.cell, ne_eq, forall_eq, Int.reduceToNat, exists_eq_left', qz, hsb0, zbc, List.length_map]; omega
  ·exact h1
  all_goals
   have hlen : (w :: t).length = t.length + 1 := rfl
   simp only [i0, Tree.den, E.den, P1.den, P2.den, P3.den, TV.cell, ne_eq, forall_eq, Int.reduceToNat, exists_eq_left', qz, hsb0, zbc, List.map_cons, List.getD_cons_zero, e4] at h4
  ·simp only [Tree.den, E.den, P1.den, P2.den, P3.den, TV.cell, ne_eq, forall_eq, Int.reduceToNat, exists_eq_left', qz, hsb0, zbc, List.map_cons, List.length_map] at h1
   obtain ⟨x, u, rfl⟩ : ∃ x u, t = x :: u := by
    cases t with
    | nil => simp at h1
    | cons x u => exact ⟨x, u, rfl⟩
   show splainL.pre [(E.o2 P2.idx sb (.int 1)).den GE ρ]
   simp only [Tree.den, E.den, P1.den, P2.den, P3.den, TV.cell, ne_eq, forall_eq, Int.reduceToNat, exists_eq_left', qz, hsb0, zbc, List.map_cons]
   exact splain_pre (hw x (.tail _ (.head _)))
  ·simp only [Tree.den, E.den, P1.den, P2.den, P3.den, TV.cell, ne_eq, forall_eq, Int.reduceToNat, exists_eq_left', qz, hsb0, zbc, List.map_cons, List.length_map] at h1
   simp only [Tree.den, E.den, P1.den, P2.den, P3.den, TV.cell, ne_eq, forall_eq, Int.reduceToNat, exists_eq_left', qz, hsb, zbc, List.map_cons, List.length_map]
   exact h1
  ·simp only [Tree.den, E.den, P1.den, P2.den, P3.den, TV.cell, ne_eq, forall_eq, Int.reduceToNat, exists_eq_left', qz, hsb0, zbc, List.map_cons, List.length_map] at h1
   obtain ⟨x, u, rfl⟩ : ∃ x u, t = x :: u := by
    cases t with
    | nil => simp at h1
    | cons x u => exact ⟨x, u, rfl⟩
   have hr : splainL.post [(E.o2 P2.idx sb (.int 1)).den GE ρ] r := hr
   have hi1 : (E.o2 P2.idx sb (.int 1)).den GE ρ = .str x := by simp only [Tree.den, E.den, P1.den, P2.den, P3.den, TV.cell, ne_eq, forall_eq, Int.reduceToNat, exists_eq_left', qz, hsb0, zbc, List.map_cons]
   rw [hi1] at hr
   have hrv : r = .bool (qvh x) := (splain_all (s := x) (Q := fun r => r = .bool (qvh x))).2 rfl r hr
   subst hrv
   simp only [E.den, hv, zab] at hp
   rw [if_pos ⟨h4, List.cons_ne_nil _ _, hp⟩] at h
   refine ⟨I3, rfl, ?_⟩
   simp only [Tree.den, E.den, P1.den, P2.den, P3.den, TV.cell, ne_eq, forall_eq, Int.reduceToNat, exists_eq_left', qz, hsb, zbc, List.map_cons]
   exact h
  ·refine hpl (fun k => ?_) [r] _ (by rw [List.length_append]; rfl)
   simp only [Tree.den, E.den, P1.den, P2.den, P3.den, TV.cell, ne_eq, forall_eq, Int.reduceToNat, exists_eq_left', qz, hsb0, zbc, List.map_cons, List.length_map] at h1
   obtain ⟨x, u, rfl⟩ : ∃ x u, t = x :: u := by
    cases t with
    | nil => simp at h1
    | cons x u => exact ⟨x, u, rfl⟩
   have hr : splainL.post [(E.o2 P2.idx sb (.int 1)).den GE ρ] r := hr
   have hi1 : (E.o2 P2.idx sb (.int 1)).den GE ρ = .str x := by simp only [Tree.den, E.den, P1.den, P2.den, P3.den, TV.cell, ne_eq, forall_eq, Int.reduceToNat, exists_eq_left', qz, hsb0, zbc, List.map_cons]
   rw [hi1] at hr
   have hrv : r = .bool (qvh x) := (splain_all (s := x) (Q := fun r => r = .bool (qvh x))).2 rfl r hr
   subst hrv
   simp only [E.den, hv, zab] at hp
   have k2 : qvh x = true := k.2.2
   rw [hp] at k2; cases k2
  ·refine hpl0 fun k => ?_
   simp only [Tree.den, E.den, P1.den, P2.den, P3.den, TV.cell, ne_eq, forall_eq, Int.reduceToNat, exists_eq_left', qz, hsb0, zbc, List.map_cons, List.length_map] at h1
   have := List.length_pos_iff.2 k.2.1
   omega
  ·exact hpl0 fun k => h4 k.1
def txO (jb : Bool) (out : List Gl) (yv : Int) (s : By) : List Gl := out ++ (if jb = true then [⟨[32], false, yv⟩] else []) ++ s.map fun c => ⟨[c], false, yv⟩
def TxI (out : List Gl) (yv : Int) (s : By) (xs : List TV) : Prop := ∃ i : Nat, xs = [.int i, glsT (out ++ (s.take i).map fun c => ⟨[c], false, yv⟩)] ∧ i ≤ s.length
def Txm (s : By) (xs : List TV) : Nat := s.length - (xs.getD 0 (.int 0)).asInt.toNat
theorem txL_den {Γ : CEnv} {R : TV → Prop} {ρ : List TV} {L : List (List TV → Prop)} {I : List TV → Prop} {k d : Nat} {y t o : E} {s : By} {yv : Int} {out : List Gl} (hd : ρ.length = d) (hL : L.length = k + 1) (hI : L[k]? = some I) (hy : ∀ xs, y.den Γ (ρ ++ xs) = .int yv) (ht : ∀ xs, t.den Γ (ρ ++ xs) = .str s) (ho : o.den Γ ρ = glsT out)
  (hb : out.length + s.length ≤ 1000000) (h : I [.bool true, glsT (out ++ s.map fun c => ⟨[c], false, yv⟩)]) : (txL k d y t o).den Γ R ρ L := by
 subst hd
 refine ⟨TxI out yv s, Txm s, ⟨0, ?_, by omega⟩, ?_⟩
 ·simp only [List.map_cons, List.map_nil, ho, List.take_zero, List.append_nil]
  rfl
 ·rintro xs _ ⟨i, rfl, hi⟩
  have ew : IntKind.wrap .i64 ((i : Int) + 1) = ((i + 1 : Nat) : Int) := by rw [wrap_i64 (by omega) (by omega)]; omega
  have ew2 : IntKind.wrap .i64 ((((i : Int)).toNat : Int) + 1) = ((i + 1 : Nat) : Int) := ew
  have hI1 : ∀ p, (L ++ [p])[k]? = some I := fun p => by rw [List.getElem?_append_left (by omega)]; exact hI
  have hI2 : ∀ p, (L ++ [p])[k + 1]? = some p := fun p => by rw [List.getElem?_append_right (by omega), hL, Nat.sub_self]; rfl
  have hlo : (out ++ (s.take i).map fun c => (⟨[c], false, yv⟩ : Gl)).length = out.length + i := by
   rw [List.length_append, List.length_map, List.length_take]; omega
  refine dbr (fun hlt => ?_) fun hn => ⟨I, hI1 _, ?_⟩
  ·simp only [Tree.den, E.den, P1.den, P2.den, P3.den, TV.cell, ne_eq, forall_eq, Int.reduceToNat, exists_eq_left', qz, gv0, ht] at hlt
   have hlt : i < s.length := by omega
   have hsub : (s.drop i).take (i + 1 - i) = [s[i]] := by
    rw [Nat.add_sub_cancel_left, List.drop_eq_getElem_cons hlt]; rfl
   have htk : s.take (i + 1) = s.take i ++ [s[i]] := List.take_succ_eq_append_getElem hlt
   refine dreq ?_ (dreq ?_ (dreq ?_ (dreq ?_ (dreq ?_ ⟨_, hI2 _, ?_⟩))))
   all_goals simp only [txG1, Tree.den, E.den, P1.den, P2.den, P3.den, TV.cell, ne_eq, forall_eq, Int.reduceToNat, exists_eq_left', qz, gv0, gv1, ht, hy, ew, Int.toNat_natCast, hsub, zaw, List.length_append, List.length_map]
   ·omega
   ·omega
   ·omega
   ·omega
   ·rw [List.length_take]; omega
   ·refine ⟨⟨i + 1, ?_, by omega⟩, ?_⟩
    ·rw [gls_snoc _ ⟨[s[i]], false, yv⟩, htk, List.map_append, List.append_assoc]; rfl
    ·simp only [Txm, List.getD_cons_zero, zac]; omega
  ·simp only [Tree.den, E.den, P1.den, P2.den, P3.den, TV.cell, ne_eq, forall_eq, Int.reduceToNat, exists_eq_left', qz, gv0, gv1, ht] at hn ⊢
   obtain rfl : i = s.length := by omega
   rw [List.take_length]
   exact h
theorem txT_den {Γ : CEnv} {R : TV → Prop} {ρ : List TV} {L : List (List TV → Prop)} {I : List TV → Prop} {k d : Nat} {j y t o : E} {s : By} {jb : Bool} {yv : Int} {out : List Gl} (hd : ρ.length = d) (hL : L.length = k + 1) (hI : L[k]? = some I) (hj : j.den Γ ρ = .bool jb) (hy : ∀ xs, y.den Γ (ρ ++ xs) = .int yv) (ht : ∀ xs, t.den Γ (ρ ++ xs) = .str s) (ho : o.den Γ ρ = glsT out)
  (hb : (txO jb out yv s).length ≤ 1000000) (h : I [.bool true, glsT (txO jb out yv s)]) : (txT k d j o y t).den Γ R ρ L := by
 have hy0 : y.den Γ ρ = .int yv := by simpa using hy []
 unfold txO at hb h
 cases jb with
 | true =>
  rw [if_pos rfl] at hb h
  have hb' : (out ++ [(⟨[32], false, yv⟩ : Gl)]).length = out.length + 1 := by rw [List.length_append]; rfl
  rw [List.length_append, List.length_map] at hb
  have hB : (txB y o).den Γ ρ = glsT (out ++ [⟨[32], false, yv⟩]) := by
   simp only [txB, Tree.den, E.den, P1.den, P2.den, P3.den, TV.cell, ne_eq, forall_eq, Int.reduceToNat, exists_eq_left', qz, hy0, ho, zaw]
   exact gls_snoc out ⟨[32], false, yv⟩
  refine dbr (fun _ => dreq ?_ (txL_den hd hL hI hy ht hB hb h)) fun hn => ?_
  ·simp only [Tree.den, E.den, P1.den, P2.den, P3.den, TV.cell, ne_eq, forall_eq, Int.reduceToNat, exists_eq_left', qz, hB, zaw, List.length_map]; omega
  ·rw [hj] at hn; cases hn
 | false =>
  rw [if_neg (by decide), List.append_nil] at hb h
  rw [List.length_append, List.length_map] at hb
  exact dbr (fun hn => by rw [hj] at hn; cases hn) fun _ => txL_den hd hL hI hy ht ho hb h
end Go.Proofs.YtlhagkbhojmjpaaGreatDoor
