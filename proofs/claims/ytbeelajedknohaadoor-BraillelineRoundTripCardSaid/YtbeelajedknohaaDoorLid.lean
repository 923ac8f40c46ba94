/- merged copy -/
/- The laws of layer 53 about Of: Of, Positions, Styles, Parts, End. -/
import Derived.Test.YtbeelajedknohaaDoorMg
import Derived.Test.YtbeelajedknohaaDoorL1
import Derived.Test.YtbeelajedknohaaDoorMh
import Derived.Test.YtbeelajedknohaaDoorMi
namespace Go.Proofs.YtbeelajedknohaaDoor
set_option linter.unusedSimpArgs false
set_option linter.unusedVariables false
set_option linter.unusedSectionVars false

def FineI (l : List Gl) (xs : List TV) : Prop := ∃ k : Nat, xs = [.int k] ∧ k ≤ l.length ∧ (l.all fun g => decide (g.s.length ≤ 20) && Lib.validD g.s) = ((l.drop k).all fun g => decide (g.s.length ≤ 20) && Lib.validD g.s)
def Finem (l : List Gl) (xs : List TV) : Nat := l.length - (xs.getD 0 (.int 0)).asInt.toNat
def fineL : Law := ⟨fun ts => ∃ (l : List Gl), ts = [glsT l] ∧ (True), fun ts z₀ => ∀ (l : List Gl), ts = [glsT l] → z₀ = .bool (fineB l)⟩
theorem fine_pre {l : List Gl} (h : True) : fineL.pre [glsT l] := ⟨l, rfl, h⟩
theorem fine_fin {l : List Gl} {z₀ : TV} (h : z₀ = .bool (fineB l)) : fineL.post [glsT l] z₀ := fun l₁ e => by
  simp only [List.cons.injEq, TV.str.injEq, TV.int.injEq, TV.bool.injEq, TV.agg.injEq, TV.list.injEq, zat, and_true, true_and, and_assoc, zzx] at e; subst e
  exact h
theorem zfy {l : List Gl} {Q : TV → Prop} : (∀ z₀, fineL.post [glsT l] z₀ → Q z₀) ↔ Q (.bool (fineB l)) := ⟨fun h => h _ (fine_fin rfl), fun h z₀ hr => by rw [hr _ rfl]; exact h⟩
theorem fine_c (k : Nat) : Contract Tryd.prog (mkEnv globT []) gtabU (zd5 k) fineL.pre fineL.post := Contract.env (Γ := mkEnv globT [validL]) (zyj (fun _ => rfl) (fun s hs => by
    simp only [cx_law53_fine, List.mem_cons, List.not_mem_nil, or_false] at hs
    rcases hs with rfl
    · exact Contract.inEnv rfl (zyh 0) rfl) k (by
  rintro ts hl ⟨l, rfl, hp⟩
  have hfin : ∀ z₀ : TV, z₀ = .bool (fineB l) → fineL.post [glsT l] z₀ := fun z₀ h => fine_fin h
  generalize fineL.post [glsT l] = R at hfin ⊢
  unfold tr_law53_fine
  unfold fineB at hfin
  simp only [Tree.den, E.den, P1.den, P2.den, P3.den, qa, qb, qc, qd, qe, qf, qg, qh, zac, zab, zad, zaa, zae, TV.cell, zah, zai, zag, zaf, qi, qj, qk, ql, qm, qn, ne_eq, qo, qp, forall_eq, qs, qt, Int.reduceToNat, qu, exists_eq_left', zbo, zaw, List.length_map]
  refine ⟨fun h => hfin _ ?_, fun h => ⟨FineI l, Finem l, ⟨0, rfl, by omega, by rw [List.drop_zero]⟩, ?_⟩⟩
  · rw [decide_eq_false (by omega), Bool.false_and]
  rw [decide_eq_true (show l.length ≤ 30 by omega), Bool.true_and] at hfin
  rintro xs _ ⟨k, rfl, hk, he⟩
  have hD : Finem l [.int (k : Int)] = l.length - k := rfl
  have e64 : IntKind.wrap .i64 ((k : Int) + 1) = ((k + 1 : Nat) : Int) := by rw [wrap_i64 (n := (k : Int) + 1) (by omega) (by omega)]; omega
  by_cases hkl : k < l.length
  · have hd := zkt hkl
    rw [hd, List.all_cons] at he
    simp only [Tree.den, E.den, P1.den, P2.den, P3.den, qa, qb, qc, qd, qe, qf, qg, qh, zac, zab, zad, zaa, zae, TV.cell, zah, zai, zag, zaf, qi, qj, qk, ql, qm, qn, ne_eq, qo, qp, forall_eq, qs, qt, Int.reduceToNat, qu, exists_eq_left', hD, e64, zbo, zaw, zi7 hkl, glT, zga, Int.toNat_natCast, List.length_map]
    refine ⟨fun _ => ⟨by omega, by omega, fun h1 => hfin _ ?_, fun h1 => ⟨zf7 (by omega), fun h2 => hfin _ ?_, fun h2 => ⟨⟨k + 1, rfl, by omega, ?_⟩, ?_⟩⟩⟩, fun h => by omega⟩
    · rw [he, decide_eq_false (by omega)]; rfl
    · rw [he, h2]; simp
    · rw [he, h2, decide_eq_true (by omega)]; rfl
    · simp only [Finem, List.getD_cons_zero, zac]; omega
  · have : k = l.length := by omega
    subst this
    simp only [Tree.den, E.den, P1.den, P2.den, P3.den, qa, qb, qc, qd, qe, qf, qg, qh, zac, zab, zad, zaa, zae, TV.cell, zah, zai, zag, zaf, qi, qj, qk, ql, qm, qn, ne_eq, qo, qp, forall_eq, qs, qt, Int.reduceToNat, qu, exists_eq_left', hD, zbo, zaw, List.length_map]
    refine ⟨fun h => by omega, fun _ => hfin _ ?_⟩
    rw [he, List.drop_of_length_le (Nat.le_refl _)]
    rfl)) rfl

def zs3 (ts : List TV) : Prop := ∃ (l : List Gl) (k : Bool), ts = [glsT l, .bool k]
theorem zy8 {t0 t1 : TV} (h0 : OkA false [.slice true [.str, .bool, .int .i64]] t0) (h1 : OkA false [.bool] t1) : zs3 [t0, t1] := by
  obtain ⟨l, rfl, _, _⟩ := h0.gls
  obtain ⟨k, rfl⟩ := h1.bool
  exact ⟨l, k, rfl⟩
theorem zew {l : List Gl} : fineL.pre [glsT l] := fine_pre trivial
theorem lsame_self {c s : List Int} : (decide (c = c) && decide (s = s)) = true := by simp
theorem lawOf_c (k : Nat) : Contract Tryd.prog (mkEnv globT []) gtabU (zjs k) (trueL zs3).pre (trueL zs3).post := Contract.env (Γ := mkEnv globT [ofL, rofL, lsameL, settL, awakeL, fineL]) (zmh (fun _ => rfl) (fun s hs => by
    simp only [cx_law53_BraillelineOf, List.mem_cons, List.not_mem_nil, or_false] at hs
    rcases hs with rfl | rfl | rfl | rfl | rfl | rfl
    · exact Contract.inEnv rfl ((of_c 0).gt za3) rfl
    · exact Contract.inEnv rfl ((rof_c 1).gt za3) rfl
    · exact Contract.inEnv rfl ((z89 2).gt za3) rfl
    · exact Contract.inEnv rfl ((z45 3).gt za3) rfl
    · exact Contract.inEnv rfl ((ze5 4).gt za3) rfl
    · exact Contract.inEnv rfl (fine_c 5) rfl) k (by
  rintro ts hl ⟨l, k, rfl⟩
  unfold tr_law53_BraillelineOf
  cases hf : fineB l with
  | false =>
    simp only [Tree.den, E.den, P1.den, P2.den, P3.den, qa, qb, qc, qd, qe, qf, qg, qh, zac, zab, zad, zaa, zae, TV.cell, zah, zai, zag, zaf, qi, qj, qk, ql, qm, qn, ne_eq, qo, qp, forall_eq, qs, qt, Int.reduceToNat, qu, exists_eq_left', zfy, hf, za2]
    repeat' (first | exact zew | exact za0 | exact rfl | (refine ⟨?_, ?_⟩) | (intro h; first | contradiction | (exfalso; exact h trivial) | skip))
  | true =>
    obtain ⟨h1, h2, h3, h4⟩ := zim hf
    have hb := z1x l k
    have hs := zym l k
    have e : brT l k = .agg [ints (brC l k), ints (brS l k)] := rfl
    have q1 : ofL.pre [glsT l, .agg [.int 100, .bool false, .bool false, .int 0, .bool k, .int 40]] := ztp ⟨by omega, by omega⟩
    have q2 : rofL.pre [glsT l, .bool k] := rof_pre ⟨by omega, by omega, h2⟩
    have q3 : lsameL.pre [.agg [ints (brC l k), ints (brS l k)], .agg [ints (brC l k), ints (brS l k)]] := zuv ⟨by omega, by omega⟩
    simp only [Tree.den, E.den, P1.den, P2.den, P3.den, qa, qb, qc, qd, qe, qf, qg, qh, zac, zab, zad, zaa, zae, TV.cell, zah, zai, zag, zaf, qi, qj, qk, ql, qm, qn, ne_eq, qo, qp, forall_eq, qs, qt, Int.reduceToNat, qu, exists_eq_left', zfy, hf, za2, zku, setT, zx9, rof_all, e, zwh, decide_true, Bool.and_self]
    repeat' (first | exact zew | exact za0 | exact zo8 trivial | exact q1 | exact q2 | exact q3 | exact rfl | (refine ⟨?_, ?_⟩) | (intro h; first | contradiction | (exfalso; exact h trivial) | skip)))) rfl

theorem cellAt_in {c s : List Int} {i : Nat} (hP : PL c s) (hi : i < c.length) (hlt : s.getD i 0 < s.getD c.length 0) (h6 : s.getD i 0 ≤ 1000000) : zdk c s (s.getD i 0) = bestN s (s.getD i 0) c.length := by
  have h0 := hP.pos (i := i) (by have := hP.1; omega)
  unfold zdk
  rw [if_neg (by rintro (h | h | h) <;> first | exact h hP | omega), if_neg (by omega)]
theorem glyphAt_in {c s : List Int} {i : Nat} (hP : PL c s) (hi : i < c.length) (h6 : i ≤ 1000000) : zb6 c s i = s.getD i 0 := by
  unfold zb6
  rw [if_neg (by rintro (h | h | h) <;> first | exact h hP | omega), if_pos (by omega)]
  rfl
def PoI (n : Nat) (xs : List TV) : Prop := ∃ k : Nat, xs = [.int k] ∧ k ≤ n
def Pom (n : Nat) (xs : List TV) : Nat := n - (xs.getD 0 (.int 0)).asInt.toNat
theorem lawPositions_c (k : Nat) : Contract Tryd.prog (mkEnv globT []) gtabU (zfh k) (trueL zs3).pre (trueL zs3).post := Contract.env (Γ := mkEnv globT [ofL, bcellL, bglyphL, settL, awakeL, fineL]) (zh9 (fun _ => rfl) (fun s hs => by
    simp only [cx_law53_BraillelinePositions, List.mem_cons, List.not_mem_nil, or_false] at hs
    rcases hs with rfl | rfl | rfl | rfl | rfl | rfl
    · exact Contract.inEnv rfl ((of_c 0).gt za3) rfl
    · exact Contract.inEnv rfl ((zyq 1).gt za3) rfl
    · exact Contract.inEnv rfl ((zsa 2).gt za3) rfl
    · exact Contract.inEnv rfl ((z45 3).gt za3) rfl
    · exact Contract.inEnv rfl ((ze5 4).gt za3) rfl
    · exact Contract.inEnv rfl (fine_c 5) rfl) k (by
  rintro ts hl ⟨l, k, rfl⟩
  unfold tr_law53_BraillelinePositions
  cases hf : fineB l with
  | false =>
    simp only [Tree.den, E.den, P1.den, P2.den, P3.den, qa, qb, qc, qd, qe, qf, qg, qh, zac, zab, zad, zaa, zae, TV.cell, zah, zai, zag, zaf, qi, qj, qk, ql, qm, qn, ne_eq, qo, qp, forall_eq, qs, qt, Int.reduceToNat, qu, exists_eq_left', zfy, hf, za2]
    repeat' (first | exact zew | exact za0 | exact rfl | (refine ⟨?_, ?_⟩) | (intro h; first | contradiction | (exfalso; exact h trivial) | skip))
  | true =>
    obtain ⟨h1, h2, h3, h4⟩ := zim hf
    have hb := z1x l k
    have hs := zym l k
    have e : brT l k = .agg [ints (brC l k), ints (brS l k)] := rfl
    have q1 : ofL.pre [glsT l, .agg [.int 100, .bool false, .bool false, .int 0, .bool k, .int 40]] := ztp ⟨by omega, by omega⟩
    have hP := br_PL h2 k
    have hlast := z1c l k
    have hin : ∀ i, i < (brC l k).length → 0 ≤ (brS l k).getD i 0 ∧ (brS l k).getD i 0 < l.length := fun i hi => z3d h2 k _ (brS_get hi)
    generalize brC l k = c at *
    generalize brS l k = s at *
    have ec : IntKind.wrap .i64 ((c.length : Int) + 1) = (c.length : Int) + 1 := wrap_i64 (by omega) (by omega)
    simp only [Tree.den, E.den, P1.den, P2.den, P3.den, qa, qb, qc, qd, qe, qf, qg, qh, zac, zab, zad, zaa, zae, TV.cell, zah, zai, zag, zaf, qi, qj, qk, ql, qm, qn, ne_eq, qo, qp, forall_eq, qs, qt, Int.reduceToNat, qu, exists_eq_left', zfy, hf, za2, zku, setT, zx9, e, zbo, zaw, List.length_map]
    simp only [Tree.den, E.den, P1.den, P2.den, P3.den, qa, qb, qc, qd, qe, qf, qg, qh, zac, zab, zad, zaa, zae, TV.cell, zah, zai, zag, zaf, qi, qj, qk, ql, qm, qn, ne_eq, qo, qp, forall_eq, qs, qt, Int.reduceToNat, qu, exists_eq_left', zaj, zao, zaq, zan, zap, zam, zal, zar, qv, qq, qr, zak, ec, hlast, zbo, zaw]
    refine ⟨zew, fun h => (by simp at h), fun _ => ⟨zo8 trivial, q1, fun h => absurd (by omega) h, fun _ => ⟨by omega, by omega, fun h => (by first | exact absurd rfl h | exact absurd trivial h), fun _ => ⟨PoI c.length, Pom c.length, ⟨0, rfl, by omega⟩, ?_⟩⟩⟩⟩
    rintro xs _ ⟨i, rfl, hi⟩
    have hD : Pom c.length [.int (i : Int)] = c.length - i := rfl
    by_cases hic : i < c.length
    · obtain ⟨g0, g1⟩ := hin i hic
      have hg := glyphAt_in hP hic (by omega)
      have hc := cellAt_in hP hic (by omega) (by omega)
      have hup := hP.2.2 i (by omega)
      obtain ⟨b1, b2, b3⟩ := bestN_spec hP.2.2 (show i < s.length by omega) hic (by omega)
      have e64 : IntKind.wrap .i64 ((i : Int) + 1) = ((i + 1 : Nat) : Int) := by rw [wrap_i64 (n := (i : Int) + 1) (by omega) (by omega)]; omega
      generalize hbb : bestN s (s.getD i 0) c.length = b at *
      have eb : 0 < b → IntKind.wrap .i64 ((b : Int) - 1) = ((b - 1 : Nat) : Int) := fun h => by rw [wrap_i64 (by omega) (by omega)]; omega
      have go : PoI c.length [.int ((i + 1 : Nat) : Int)] ∧ Pom c.length [.int ((i + 1 : Nat) : Int)] < c.length - i := by
        refine ⟨⟨i + 1, rfl, by omega⟩, ?_⟩
        simp only [Pom, List.getD_cons_zero, zac]; omega
      simp only [Tree.den, E.den, P1.den, P2.den, P3.den, qa, qb, qc, qd, qe, qf, qg, qh, zac, zab, zad, zaa, zae, TV.cell, zah, zai, zag, zaf, qi, qj, qk, ql, qm, qn, ne_eq, qo, qp, forall_eq, qs, qt, Int.reduceToNat, qu, exists_eq_left', zaj, zao, zaq, zan, zap, zam, zal, zar, qv, qq, qr, zak, hD, zgv, hg, zi1, hc, e64, b1, zbo, zaw]
      refine ⟨fun _ => ⟨zj7 ⟨by omega, by omega⟩, zow ⟨by omega, by omega⟩, by omega, by omega, fun h => (by first | exact absurd rfl h | exact absurd trivial h), fun _ => ⟨fun h => by omega, fun _ => ⟨fun h => by omega, fun _ => ⟨by omega, by omega, fun h => by omega, fun _ => ⟨fun h => by omega, fun _ => ⟨fun h => by omega, fun _ => ⟨by omega, by omega, fun h => (by first | exact absurd rfl h | exact absurd trivial h), fun _ => ⟨fun hb0 => ?_, fun _ => go⟩⟩⟩⟩⟩⟩⟩⟩, fun h => by omega⟩
      have eb := eb (by omega)
      simp only [eb, Int.toNat_natCast]
      exact ⟨by omega, by omega, fun h => absurd h (b3 (by omega)), fun _ => go⟩
    · simp only [Tree.den, E.den, P1.den, P2.den, P3.den, qa, qb, qc, qd, qe, qf, qg, qh, zac, zab, zad, zaa, zae, TV.cell, zah, zai, zag, zaf, qi, qj, qk, ql, qm, qn, ne_eq, qo, qp, forall_eq, qs, qt, Int.reduceToNat, qu, exists_eq_left', zaj, zao, zaq, zan, zap, zam, zal, zar, qv, qq, qr, zak, hD, za2]
      exact ⟨fun h => by omega, fun _ => ⟨za0, rfl⟩⟩)) rfl

theorem zrn (l : List Gl) (s : List UInt8) (b : Bool) (y : Int) : TV.list (l.map glT ++ [.agg [.str s, .bool b, .int y]]) = glsT (l ++ [⟨s, b, y⟩]) := by simp [glsT, glT]
theorem gls_list (l : List Gl) : TV.list (l.map glT) = glsT l := rfl
theorem word_texts {l m : List Gl} (h : l.map Gl.s = m.map Gl.s) : wordG l = wordG m := by unfold wordG; rw [List.flatMap_def, List.flatMap_def, h]
def glsStyP (ts : List TV) : Prop := ∃ (l : List Gl) (y : List Int) (k : Bool), ts = [glsT l, ints y, .bool k] ∧ y.length ≤ reachBytes
theorem glsStyP_of {t0 t1 t2 : TV} (h0 : OkA false [.slice true [.str, .bool, .int .i64]] t0) (h1 : OkA false [.slice false [.int .u8]] t1) (h2 : OkA false [.bool] t2) : glsStyP [t0, t1, t2] := by
  obtain ⟨l, rfl, _, _⟩ := h0.gls
  obtain ⟨y, rfl, hy, _⟩ := h1.ints
  obtain ⟨k, rfl⟩ := h2.bool
  exact ⟨l, y, k, rfl, hy⟩
def StI (l : List Gl) (xs : List TV) : Prop := ∃ (i : Nat) (m : List Gl), xs = [.int i, glsT m] ∧ i ≤ l.length ∧ m.map Gl.s = (l.take i).map Gl.s
def Stm (l : List Gl) (xs : List TV) : Nat := l.length - (xs.getD 0 (.int 0)).asInt.toNat
theorem take_map_snoc {l : List Gl} {i : Nat} (h : i < l.length) : (l.take (i + 1)).map Gl.s = (l.take i).map Gl.s ++ [(gg l i).s] := by
  unfold gg
  rw [List.take_succ_eq_append_getElem h, List.map_append, List.getD_eq_getElem?_getD, List.getElem?_eq_getElem h]
  rfl
theorem lawStyles_c (k : Nat) : Contract Tryd.prog (mkEnv globT []) gtabU (zg4 k) (trueL glsStyP).pre (trueL glsStyP).post := Contract.env (Γ := mkEnv globT [ofL, lsameL, settL, awakeL, fineL]) (zjo (fun _ => rfl) (fun s hs => by
    simp only [cx_law53_BraillelineStyles, List.mem_cons, List.not_mem_nil, or_false] at hs
    rcases hs with rfl | rfl | rfl | rfl | rfl
    · exact Contract.inEnv rfl ((of_c 0).gt za3) rfl
    · exact Contract.inEnv rfl ((z89 1).gt za3) rfl
    · exact Contract.inEnv rfl ((z45 2).gt za3) rfl
    · exact Contract.inEnv rfl ((ze5 3).gt za3) rfl
    · exact Contract.inEnv rfl (fine_c 4) rfl) k (by
  rintro ts hl ⟨l, y, k, rfl, hy⟩
  unfold tr_law53_BraillelineStyles
  cases hf : fineB l with
  | false =>
    simp only [Tree.den, E.den, P1.den, P2.den, P3.den, qa, qb, qc, qd, qe, qf, qg, qh, zac, zab, zad, zaa, zae, TV.cell, zah, zai, zag, zaf, qi, qj, qk, ql, qm, qn, ne_eq, qo, qp, forall_eq, qs, qt, Int.reduceToNat, qu, exists_eq_left', zfy, hf, za2]
    repeat' (first | exact zew | exact za0 | exact rfl | (refine ⟨?_, ?_⟩) | (intro h; first | contradiction | (exfalso; exact h trivial) | skip))
  | true =>
    obtain ⟨h1, h2, h3, h4⟩ := zim hf
    simp only [Tree.den, E.den, P1.den, P2.den, P3.den, qa, qb, qc, qd, qe, qf, qg, qh, zac, zab, zad, zaa, zae, TV.cell, zah, zai, zag, zaf, qi, qj, qk, ql, qm, qn, ne_eq, qo, qp, forall_eq, qs, qt, Int.reduceToNat, qu, exists_eq_left', zfy, hf, za2, zbo, zaw, List.length_map]
    simp only [Tree.den, E.den, P1.den, P2.den, P3.den, qa, qb, qc, qd, qe, qf, qg, qh, zac, zab, zad, zaa, zae, TV.cell, zah, zai, zag, zaf, qi, qj, qk, ql, qm, qn, ne_eq, qo, qp, forall_eq, qs, qt, Int.reduceToNat, qu, exists_eq_left', zaj, zao, zaq, zan, zap, zam, zal, zar, qv, qq, qr, zak, zbo, zaw]
    refine ⟨zew, fun h => (by simp at h), fun _ => ⟨fun _ => ⟨za0, rfl⟩, fun hy0 => ⟨StI l, Stm l, ⟨0, [], rfl, by omega, rfl⟩, ?_⟩⟩⟩
    rintro xs _ ⟨i, m, rfl, hi, hm⟩
    have hD : ∀ z, Stm l [.int (i : Int), z] = l.length - i := fun _ => rfl
    have hml : m.length = min i l.length := by have := congrArg List.length hm; simpa using this
    by_cases hil : i < l.length
    · have e64 : IntKind.wrap .i64 ((i : Int) + 1) = ((i + 1 : Nat) : Int) := by rw [wrap_i64 (n := (i : Int) + 1) (by omega) (by omega)]; omega
      have r0 : 0 ≤ (i : Int).tmod (y.length : Int) := Int.tmod_nonneg _ (by omega)
      have r1 : (i : Int).tmod (y.length : Int) < y.length := Int.tmod_lt_of_pos _ (by omega)
      simp only [Tree.den, E.den, P1.den, P2.den, P3.den, qa, qb, qc, qd, qe, qf, qg, qh, zac, zab, zad, zaa, zae, TV.cell, zah, zai, zag, zaf, qi, qj, qk, ql, qm, qn, ne_eq, qo, qp, forall_eq, qs, qt, Int.reduceToNat, qu, exists_eq_left', zaj, zao, zaq, zan, zap, zam, zal, zar, qv, qq, qr, zak, hD, e64, zbo, zaw, zi7 hil, glT, zrn]
      refine ⟨fun _ => ⟨by omega, by omega, by omega, r0, r1, by omega, ⟨i + 1, _, rfl, by omega, ?_⟩, ?_⟩, fun h => by omega⟩
      · rw [List.map_append, hm, take_map_snoc hil]
        rfl
      · simp only [Stm, List.getD_cons_zero, zac]; omega
    · have : i = l.length := by omega
      subst this
      rw [List.take_of_length_le (Nat.le_refl _)] at hm
      have hw := word_texts hm
      have hmm : m.length = l.length := by omega
      have hbt := brT_texts hm k
      have hb := z1x l k
      have hs := zym l k
      have e : brT l k = .agg [ints (brC l k), ints (brS l k)] := rfl
      have q1 : ofL.pre [glsT l, .agg [.int 100, .bool false, .bool false, .int 0, .bool k, .int 40]] := ztp ⟨by omega, by omega⟩
      have q2 : ofL.pre [glsT m, .agg [.int 100, .bool false, .bool false, .int 0, .bool k, .int 40]] := ztp ⟨by rw [hw]; omega, by omega⟩
      have q3 : lsameL.pre [.agg [ints (brC l k), ints (brS l k)], .agg [ints (brC l k), ints (brS l k)]] := zuv ⟨by omega, by omega⟩
      simp only [Tree.den, E.den, P1.den, P2.den, P3.den, qa, qb, qc, qd, qe, qf, qg, qh, zac, zab, zad, zaa, zae, TV.cell, zah, zai, zag, zaf, qi, qj, qk, ql, qm, qn, ne_eq, qo, qp, forall_eq, qs, qt, Int.reduceToNat, qu, exists_eq_left', zaj, zao, zaq, zan, zap, zam, zal, zar, qv, qq, qr, zak, hD, zbo, zaw, za2, zku, setT, zx9, hbt, e, zwh, decide_true, Bool.and_self]
      refine ⟨fun h => by omega, fun _ => ?_⟩
      repeat' (first | exact za0 | exact zo8 trivial | exact q1 | exact q2 | exact q3 | exact rfl | (refine ⟨?_, ?_⟩) | (intro h; first | contradiction | (exfalso; exact h trivial) | skip)))) rfl

def gls2P (ts : List TV) : Prop := ∃ (a b : List Gl), ts = [glsT a, glsT b]
theorem gls2P_of {t0 t1 : TV} (h0 : OkA false [.slice true [.str, .bool, .int .i64]] t0) (h1 : OkA false [.slice true [.str, .bool, .int .i64]] t1) : gls2P [t0, t1] := by
  obtain ⟨a, rfl, _, _⟩ := h0.gls
  obtain ⟨b, rfl, _, _⟩ := h1.gls
  exact ⟨a, b, rfl⟩
theorem gls_app (a b : List Gl) : TV.list (a.map glT ++ b.map glT) = glsT (a ++ b) := by simp [glsT]
theorem wordG_app (a b : List Gl) : wordG (a ++ b) = wordG a ++ wordG b := by unfold wordG; rw [List.flatMap_append]
theorem lawParts_c (k : Nat) : Contract Tryd.prog (mkEnv globT []) gtabU (zhh k) (trueL gls2P).pre (trueL gls2P).post := Contract.env (Γ := mkEnv globT [sameL, ofL, settL, awakeL, fineL]) (zj6 (fun _ => rfl) (fun s hs => by
    simp only [cx_law53_BraillelineParts, List.mem_cons, List.not_mem_nil, or_false] at hs
    rcases hs with rfl | rfl | rfl | rfl | rfl
    · exact Contract.inEnv rfl ((same_c 0).gt za3) rfl
    · exact Contract.inEnv rfl ((of_c 1).gt za3) rfl
    · exact Contract.inEnv rfl ((z45 2).gt za3) rfl
    · exact Contract.inEnv rfl ((ze5 3).gt za3) rfl
    · exact Contract.inEnv rfl (fine_c 4) rfl) k (by
  rintro ts hl ⟨a, b, rfl⟩
  unfold tr_law53_BraillelineParts
  cases hf : fineB a with
  | false =>
    simp only [Tree.den, E.den, P1.den, P2.den, P3.den, qa, qb, qc, qd, qe, qf, qg, qh, zac, zab, zad, zaa, zae, TV.cell, zah, zai, zag, zaf, qi, qj, qk, ql, qm, qn, ne_eq, qo, qp, forall_eq, qs, qt, Int.reduceToNat, qu, exists_eq_left', zfy, hf, za2]
    repeat' (first | exact zew | exact za0 | exact rfl | (refine ⟨?_, ?_⟩) | (intro h; first | contradiction | (exfalso; exact h trivial) | skip))
  | true =>
    cases hg : fineB b with
    | false =>
      simp only [Tree.den, E.den, P1.den, P2.den, P3.den, qa, qb, qc, qd, qe, qf, qg, qh, zac, zab, zad, zaa, zae, TV.cell, zah, zai, zag, zaf, qi, qj, qk, ql, qm, qn, ne_eq, qo, qp, forall_eq, qs, qt, Int.reduceToNat, qu, exists_eq_left', zfy, hf, hg, za2]
      repeat' (first | exact zew | exact za0 | exact rfl | (refine ⟨?_, ?_⟩) | (intro h; first | contradiction | (exfalso; exact h trivial) | skip))
    | true =>
      obtain ⟨h1, h2, h3, h4⟩ := zim hf
      obtain ⟨g1, g2, g3, g4⟩ := zim hg
      have hwl : (wordG (a ++ b)).length = (wordG a).length + (wordG b).length := by rw [wordG_app, List.length_append]
      have ba := z1x a false
      have bb := z1x b false
      have bab := z1x (a ++ b) false
      have e : ∀ l k, brT l k = .agg [ints (brC l k), ints (brS l k)] := fun _ _ => rfl
      have hc : brC (a ++ b) false = brC a false ++ brC b false := by
        unfold brC
        rw [if_neg (by decide), if_neg (by decide), if_neg (by decide), cellsG_app]
      have hsh := br_short (h2.app g2)
      have q1 : ofL.pre [glsT a, .agg [.int 100, .bool false, .bool false, .int 0, .bool false, .int 40]] := ztp ⟨by omega, by omega⟩
      have q2 : ofL.pre [glsT b, .agg [.int 100, .bool false, .bool false, .int 0, .bool false, .int 40]] := ztp ⟨by omega, by omega⟩
      have q3 : ∀ k, ofL.pre [glsT (a ++ b), .agg [.int 100, .bool false, .bool false, .int 0, .bool k, .int 40]] := fun k => ztp ⟨by omega, by rw [List.length_append]; omega⟩
      have q4 : sameL.pre [ints (brC (a ++ b) false), ints (brC (a ++ b) false)] := z2h (by omega)
      have hc' := hc.symm
      simp only [Tree.den, E.den, P1.den, P2.den, P3.den, qa, qb, qc, qd, qe, qf, qg, qh, zac, zab, zad, zaa, zae, TV.cell, zah, zai, zag, zaf, qi, qj, qk, ql, qm, qn, ne_eq, qo, qp, forall_eq, qs, qt, Int.reduceToNat, qu, exists_eq_left', zfy, hf, hg, za2, zku, setT, zbo, zaw, gls_app, gls_list, zx9, e, List.length_append, List.length_map]
      simp only [Tree.den, E.den, P1.den, P2.den, P3.den, qa, qb, qc, qd, qe, qf, qg, qh, zac, zab, zad, zaa, zae, TV.cell, zah, zai, zag, zaf, qi, qj, qk, ql, qm, qn, ne_eq, qo, qp, forall_eq, qs, qt, Int.reduceToNat, qu, exists_eq_left', zaj, zao, zaq, zan, zap, zam, zal, zar, qv, qq, qr, zak, zfy, hf, hg, za2, zku, setT, zbo, zaw, gls_app, gls_list, zx9, e, hc', z0w, and_self, decide_true]
      repeat' (first | exact zew | exact za0 | exact zo8 trivial | exact q1 | exact q2 | exact q3 _ | exact q4 | exact rfl | omega | (refine ⟨?_, ?_⟩) | (intro h; first | contradiction | (exfalso; exact h trivial) | (exfalso; omega) | skip)))) rfl

def glsU16P (ts : List TV) : Prop := ∃ (l : List Gl) (n : Int) (k : Bool), ts = [glsT l, .int n, .bool k] ∧ 0 ≤ n ∧ n ≤ 65535
theorem glsU16P_of {t0 t1 t2 : TV} (h0 : OkA false [.slice true [.str, .bool, .int .i64]] t0) (h1 : OkA false [.int .u16] t1) (h2 : OkA false [.bool] t2) : glsU16P [t0, t1, t2] := by
  obtain ⟨l, rfl, _, _⟩ := h0.gls
  obtain ⟨n, rfl, hn, hn'⟩ := h1.int
  obtain ⟨k, rfl⟩ := h2.bool
  exact ⟨l, n, k, rfl, hn, hn'⟩
theorem lawEnd_c (k : Nat) : Contract Tryd.prog (mkEnv globT []) gtabU (zjc k) (trueL glsU16P).pre (trueL glsU16P).post := Contract.env (Γ := mkEnv globT [ofL, bcellL, bglyphL, settL, awakeL, fineL]) (zlj (fun _ => rfl) (fun s hs => by
    simp only [cx_law53_BraillelineEnd, List.mem_cons, List.not_mem_nil, or_false] at hs
    rcases hs with rfl | rfl | rfl | rfl | rfl | rfl
    · exact Contract.inEnv rfl ((of_c 0).gt za3) rfl
    · exact Contract.inEnv rfl ((zyq 1).gt za3) rfl
    · exact Contract.inEnv rfl ((zsa 2).gt za3) rfl
    · exact Contract.inEnv rfl ((z45 3).gt za3) rfl
    · exact Contract.inEnv rfl ((ze5 4).gt za3) rfl
    · exact Contract.inEnv rfl (fine_c 5) rfl) k (by
  rintro ts hl ⟨l, n, k, rfl, hn, hn'⟩
  unfold tr_law53_BraillelineEnd
  cases hf : fineB l with
  | false =>
    simp only [Tree.den, E.den, P1.den, P2.den, P3.den, qa, qb, qc, qd, qe, qf, qg, qh, zac, zab, zad, zaa, zae, TV.cell, zah, zai, zag, zaf, qi, qj, qk, ql, qm, qn, ne_eq, qo, qp, forall_eq, qs, qt, Int.reduceToNat, qu, exists_eq_left', zfy, hf, za2]
    repeat' (first | exact zew | exact za0 | exact rfl | (refine ⟨?_, ?_⟩) | (intro h; first | contradiction | (exfalso; exact h trivial) | skip))
  | true =>
    obtain ⟨h1, h2, h3, h4⟩ := zim hf
    have hb := z1x l k
    have hs := zym l k
    have e : brT l k = .agg [ints (brC l k), ints (brS l k)] := rfl
    have q1 : ofL.pre [glsT l, .agg [.int 100, .bool false, .bool false, .int 0, .bool k, .int 40]] := ztp ⟨by omega, by omega⟩
    have hP := br_PL h2 k
    have hlast := z1c l k
    generalize brC l k = c at *
    generalize brS l k = s at *
    have en : IntKind.wrap .i64 n = n := wrap_i64 (by omega) (by omega)
    have eln : IntKind.wrap .i64 ((l.length : Int) + n) = (l.length : Int) + n := wrap_i64 (by omega) (by omega)
    have ecn : IntKind.wrap .i64 ((c.length : Int) + n) = (c.length : Int) + n := wrap_i64 (by omega) (by omega)
    have c1 : zdk c s ((l.length : Int) + n) = (c.length : Int) + n := by
      unfold zdk
      rw [if_neg (by rintro (h | h | h) <;> first | exact h hP | omega), if_pos (by omega)]
      omega
    have c2 : zb6 c s ((c.length : Int) + n) = (l.length : Int) + n := by
      unfold zb6
      rw [if_neg (by rintro (h | h | h) <;> first | exact h hP | omega), if_neg (by omega), wrap_i64 (n := s.getD c.length 0 + ((c.length : Int) + n)) (by omega) (by omega), wrap_i64 (by omega) (by omega)]
      omega
    have c3 : zdk c s (-1) = -1 := by unfold zdk; rw [if_pos (.inr (.inl (by decide)))]
    have c4 : zb6 c s (-1) = -1 := by unfold zb6; rw [if_pos (.inr (.inl (by decide)))]
    have q2 : ∀ g, bcellL.pre [.agg [ints c, ints s], .int g] := fun g => zow ⟨by omega, by omega⟩
    have q3 : ∀ g, bglyphL.pre [.agg [ints c, ints s], .int g] := fun g => zj7 ⟨by omega, by omega⟩
    simp only [Tree.den, E.den, P1.den, P2.den, P3.den, qa, qb, qc, qd, qe, qf, qg, qh, zac, zab, zad, zaa, zae, TV.cell, zah, zai, zag, zaf, qi, qj, qk, ql, qm, qn, ne_eq, qo, qp, forall_eq, qs, qt, Int.reduceToNat, qu, exists_eq_left', zfy, hf, za2, zku, setT, zx9, e, zbo, zaw, List.length_map, en, eln]
    simp only [Tree.den, E.den, P1.den, P2.den, P3.den, qa, qb, qc, qd, qe, qf, qg, qh, zac, zab, zad, zaa, zae, TV.cell, zah, zai, zag, zaf, qi, qj, qk, ql, qm, qn, ne_eq, qo, qp, forall_eq, qs, qt, Int.reduceToNat, qu, exists_eq_left', zaj, zao, zaq, zan, zap, zam, zal, zar, qv, qq, qr, zak, en, eln, ecn, zi1, zgv, c1, c2, c3, c4, zbo, zaw, za2]
    repeat' (first | exact zew | exact za0 | exact zo8 trivial | exact q1 | exact q2 _ | exact q3 _ | exact rfl | (refine ⟨?_, ?_⟩) | (intro h; first | contradiction | (exfalso; exact h trivial) | (exfalso; exact h rfl) | skip)))) rfl
end Go.Proofs.YtbeelajedknohaaDoor
