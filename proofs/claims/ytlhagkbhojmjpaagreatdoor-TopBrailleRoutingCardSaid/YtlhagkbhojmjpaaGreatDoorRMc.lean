/- Written by this repo's own program out of its texts. -/
import Derived.Test.YtlhagkbhojmjpaaGreatDoorRC1
import Derived.Test.YtlhagkbhojmjpaaGreatDoorRMb
namespace Go.Proofs.YtlhagkbhojmjpaaGreatDoor
set_option linter.unusedSimpArgs false
set_option linter.unusedVariables false
set_option linter.unusedSectionVars false
def cellZ (r : Int) : Int := if r < 32 ∨ 126 < r then 0 else brailleZ.getD (r - 32).toNat 0
def hasZ (r : Int) : Bool := decide (32 ≤ r) && decide (r ≤ 126)
def zql : List Int → Int → Int → Int
  | [], _, _ => 65533
  | x :: l, c, i => if x = c then i else zql l c (i + 1)
def runeZ (c : Int) : Int := zql brailleZ c 32
def pairT (a : Int) (b : Bool) : TV := .agg [.int a, .bool b]
def cellL : Law := ⟨fun ts => ∃ r, ts = [.int r] ∧ -2147483648 ≤ r ∧ r ≤ 2147483647, fun ts x => ∀ r, ts = [.int r] → x = pairT (cellZ r) (hasZ r)⟩
theorem ze2 {r : Int} (h : -2147483648 ≤ r) (k : r ≤ 2147483647) : cellL.pre [.int r] := ⟨r, rfl, h, k⟩
theorem ze8 {r : Int} {Q : TV → Prop} : (∀ x, cellL.post [.int r] x → Q x) ↔ Q (pairT (cellZ r) (hasZ r)) :=
  ⟨fun h => h _ fun b' e => by simp only [List.cons.injEq, TV.int.injEq, and_true] at e; rw [e], fun h x hx => by rw [hx r rfl]; exact h⟩
theorem z1k {r : Int} : ∀ x : TV, x = pairT (cellZ r) (hasZ r) → cellL.post [.int r] x := fun x hr b' e => by
  simp only [List.cons.injEq, TV.int.injEq, and_true] at e
  subst e
  exact hr
theorem zc5 : (zd2).asList.length = 95 := rfl
theorem zc2 (i : Nat) : (zd2).asList.getD i (.int 0) = .int (brailleZ.getD i 0) := zam brailleZ i
theorem cell_c (k : Nat) : Contract Tryz.prog (mkEnv globT []) gtab (zcb k) cellL.pre cellL.post := zfl (fun _ => rfl) (fun s hs => by cases hs) k (by
  rintro ts hl ⟨r, rfl, h0, h1⟩
  have fin := z1k (r := r)
  generalize cellL.post [.int r] = R at fin ⊢
  unfold tr_computerbraille_Cell
  simp only [Tree.den, E.den, P1.den, P2.den, P3.den, qa, qb, qc, qd, qe, qf, qg, qh, zac, zab, zad, zaa, zae, TV.cell, zah, zai, zag, zaf, qi, qj, qk, ql, qm, qn, ne_eq, qo, qp, forall_eq, qs, qt, Int.reduceToNat, qu, exists_eq_left']
  have hg : (mkEnv globT []).glob 2 = zd2 := rfl
  simp only [hg, zc5, zc2]
  refine ⟨fun h => fin _ ?_, fun h => ⟨fun h' => fin _ ?_, fun h' => ?_⟩⟩
  · unfold pairT cellZ hasZ; rw [if_pos (by omega), decide_eq_false (by omega), Bool.false_and]
  · unfold pairT cellZ hasZ; rw [if_pos (by omega), decide_eq_false (p := r ≤ 126) (by omega), Bool.and_false]
  · rw [zax (n := r - 32) (by omega) (by omega)]
    refine ⟨?_, by omega, by omega, fin _ ?_⟩
    · decide
    unfold pairT cellZ hasZ; rw [if_neg (by omega), decide_eq_true (by omega), decide_eq_true (by omega), Bool.true_and])
def UI (c : Int) (xs : List TV) : Prop := ∃ k : Nat, xs = [.int k] ∧ k ≤ 95 ∧ zql (brailleZ.drop k) c (32 + k) = runeZ c
def Um (xs : List TV) : Nat := 95 - (xs.getD 0 (.int 0)).asInt.toNat
theorem zic {k : Nat} (h : k < 95) (c : Int) : zql (brailleZ.drop k) c (32 + k) = if brailleZ.getD k 0 = c then 32 + (k : Int) else zql (brailleZ.drop (k + 1)) c (32 + (k + 1 : Nat)) := by
  have hl : k < brailleZ.length := h
  rw [List.drop_eq_getElem_cons hl, List.getD_eq_getElem?_getD, List.getElem?_eq_getElem hl]
  show (if _ then _ else _) = _
  split <;> rename_i hh
  · rw [if_pos (by simpa using hh)]
  · rw [if_neg (by simpa using hh)]; congr 1
theorem UI.step {c : Int} {k : Nat} (h : k < 95) (hk : zql (brailleZ.drop k) c (32 + k) = runeZ c) (hne : ¬ brailleZ.getD k 0 = c) : UI c [.int (k + 1)] ∧ Um [.int ((k : Int) + 1)] < 95 - k := by
  rw [zic h, if_neg hne] at hk
  refine ⟨⟨k + 1, rfl, by omega, hk⟩, ?_⟩
  simp only [Um, List.getD_cons_zero, zac]; omega
end Go.Proofs.YtlhagkbhojmjpaaGreatDoor
namespace Go.Proofs.YtlhagkbhojmjpaaGreatDoor
set_option linter.unusedSimpArgs false
set_option linter.unusedVariables false
set_option linter.unusedSectionVars false
def InR (l : List Int) : Prop := ∀ r ∈ l, 0 ≤ r ∧ r ≤ 1114111
theorem z9m {K : List Int} {b : Int} (hg : Good K) (hK : K ≠ []) (hr : loK K ≤ b ∧ b ≤ hiK K) (hl : K.length + 1 = leadK K) : 0 ≤ valK (K ++ [b]) ∧ valK (K ++ [b]) ≤ 1114111 := by
  match K, hg, hK with
  | [a], h, _ =>
    have := za7 a
    simp only [Good, loK, hiK, leadK, List.length_cons, List.length_nil] at h hr hl
    have := zld a; have := zkw a
    simp only [valK, List.cons_append, List.nil_append, List.foldl_cons, List.foldl_nil]
    unfold fst1
    (repeat' split) <;> omega
  | [a, c], h, _ =>
    have := za7 a
    simp only [Good, loK, hiK, leadK, List.length_cons, List.length_nil] at h hr hl
    have := zld a; have := zkw a
    simp only [valK, List.cons_append, List.nil_append, List.foldl_cons, List.foldl_nil]
    unfold fst1
    (repeat' split) <;> omega
  | [a, c, d], h, _ =>
    have := za7 a
    simp only [Good, loK, hiK, leadK, List.length_cons, List.length_nil] at h hr hl
    have h244 : a = 244 → c ≤ 143 := fun e => by subst e; have : hi1 244 = 143 := by decide
                                                 omega
    have := zld a; have := zkw a
    simp only [valK, List.cons_append, List.nil_append, List.foldl_cons, List.foldl_nil]
    unfold fst1
    (repeat' split) <;> omega
theorem znh {l m : List Int} (h : InR l) (k : InR m) : InR (l ++ m) := fun r hr => by
  rcases List.mem_append.1 hr with hr | hr
  · exact h r hr
  · exact k r hr
theorem zox {r : Int} (h : 0 ≤ r) (k : r ≤ 1114111) : InR [r] := fun x hx => by simp only [List.mem_singleton] at hx; subst hx; exact ⟨h, k⟩
theorem zv0 {o : List Int} {b : Int} (h : InR o) (hb : 0 ≤ b ∧ b ≤ 255) : InR (zba o b).1 := by
  unfold zba
  split
  · exact znh h (zox (by omega) (by omega))
  · split
    · exact h
    · exact znh h (zox (by omega) (by omega))
theorem inR_step {s : List Int × List Int} {b : Int} (h : InR s.1) (hg : Good s.2) (hb : 0 ≤ b ∧ b ≤ 255) : InR (stepD s b).1 := by
  obtain ⟨o, K⟩ := s
  unfold stepD
  dsimp only at h hg ⊢
  split
  · exact zv0 h hb
  · rename_i hK
    split
    · rename_i hr
      split
      · rename_i hl
        have := z9m hg hK hr hl
        exact znh h (zox this.1 this.2)
      · exact h
    · exact zv0 (znh h (zox (by omega) (by omega))) hb
theorem z06 : ∀ (l : List Int) (s : List Int × List Int), InR s.1 → Good s.2 → Byte l → InR (decF s l).1
  | [], s, h, _, _ => h
  | b :: l, s, h, hg, hb => z06 l (stepD s b) (inR_step h hg (hb b (by simp))) (zek s b hg) (fun x hx => hb x (by simp [hx]))
theorem zy2 {l : List Int} (h : Byte l) : InR (Go.Proofs.YtlhagkbhojmjpaaGreatDoor.fin l) := by
  unfold Go.Proofs.YtlhagkbhojmjpaaGreatDoor.fin
  refine znh (z06 l ([], []) (fun r hr => by cases hr) trivial h) ?_
  split
  · exact fun r hr => by cases hr
  · exact zox (by omega) (by omega)
theorem zk4 (l : List Int) : Go.Proofs.YtlhagkbhojmjpaaGreatDoor.fin l = (dec l).1 ++ Go.Proofs.YtlhagkbhojmjpaaGreatDoor.fin (dec l).2 := by
  unfold Go.Proofs.YtlhagkbhojmjpaaGreatDoor.fin
  rw [z2m _ (zs2 l)]
  rfl
theorem zls (l : List Int) : (Go.Proofs.YtlhagkbhojmjpaaGreatDoor.fin l).length ≤ l.length := by
  have := zfq l
  unfold Go.Proofs.YtlhagkbhojmjpaaGreatDoor.fin
  rw [List.length_append]
  split
  · simp; omega
  · rename_i h
    have : (dec l).2.length ≠ 0 := by simpa using h
    simp; omega
def hexZ (d : Int) : Int := if d < 10 then 48 + d else 87 + d
def escZ (r : Int) : List Int := [255, cellZ (hexZ (r / 1048576 % 16)), cellZ (hexZ (r / 65536 % 16)), cellZ (hexZ (r / 4096 % 16)), cellZ (hexZ (r / 256 % 16)), cellZ (hexZ (r / 16 % 16)), cellZ (hexZ (r % 16))]
def oneZ (r : Int) : List Int := if hasZ r then [cellZ r] else escZ r
def za8 (l : List Int) : List Int := l.flatMap oneZ
end Go.Proofs.YtlhagkbhojmjpaaGreatDoor
namespace Go.Proofs.YtlhagkbhojmjpaaGreatDoor
set_option linter.unusedSimpArgs false
set_option linter.unusedVariables false
set_option linter.unusedSectionVars false
def hexL (r : Int) : List Int := [cellZ (hexZ (r / 1048576 % 16)), cellZ (hexZ (r / 65536 % 16)), cellZ (hexZ (r / 4096 % 16)), cellZ (hexZ (r / 256 % 16)), cellZ (hexZ (r / 16 % 16)), cellZ (hexZ (r % 16))]
theorem ziu (r : Int) : escZ r = 255 :: hexL r := rfl
def digitsB : List UInt8 := [48, 49, 50, 51, 52, 53, 54, 55, 56, 57, 97, 98, 99, 100, 101, 102]
theorem zqi {d : Int} (h : 0 ≤ d) (k : d < 16) : ((digitsB.getD d.toNat 0).toNat : Int) = hexZ d := by
  obtain ⟨m, rfl⟩ := Int.eq_ofNat_of_zero_le h
  have key : ∀ m : Fin 16, ((digitsB.getD (m.val : Int).toNat 0).toNat : Int) = hexZ (m.val : Int) := by decide +kernel
  have hlt : m < 16 := by omega
  have h2 := key ⟨m, hlt⟩
  dsimp only at h2
  exact h2
theorem qaa {d : Int} (h : 0 ≤ d) (k : d < 16) : 48 ≤ hexZ d ∧ hexZ d ≤ 102 := by unfold hexZ; split <;> omega
theorem z82 {r : Int} (h : 0 ≤ r) (k : r ≤ 1114111) {i : Nat} (hi : i < 6) : zbw .i32 (fun x y => x &&& y) (shrOp .i32 r (20 - 4 * i)) 15 = r / (2 ^ (20 - 4 * i) : Nat) % 16 := by
  have hm := and_mask32 4 (by omega) (a := r / (2 ^ (20 - 4 * i) : Nat)) (Int.ediv_nonneg h (by exact Int.le_of_lt (by exact_mod_cast Nat.two_pow_pos _))) (by
    have := Int.ediv_le_self (((2 ^ (20 - 4 * i) : Nat)) : Int) h; omega)
  have e : shrOp .i32 r (20 - 4 * (i : Int)) = r / (2 ^ (20 - 4 * i) : Nat) := by
    unfold shrOp
    have e1 : Nat.min ((20 : Int) - 4 * i).toNat IntKind.i32.bits = 20 - 4 * i := by
      simp only [IntKind.bits]
      rw [show ((20 : Int) - 4 * i).toNat = 20 - 4 * i by omega]
      exact Nat.min_eq_left (by omega)
    rw [e1, Int.fdiv_eq_ediv_of_nonneg _ (by exact Int.le_of_lt (Int.pow_pos (by decide)))]
    congr 1
  rw [e]
  exact hm
theorem z1o {r : Int} {i : Nat} (hi : i < 6) : (hexL r).getD i 0 = cellZ (hexZ (r / (2 ^ (20 - 4 * i) : Nat) % 16)) := by
  match i, hi with
  | 0, _ => rfl
  | 1, _ => rfl
  | 2, _ => rfl
  | 3, _ => rfl
  | 4, _ => rfl
  | 5, _ => simp [hexL]
def cellsL : Law := ⟨fun ts => ∃ s, ts = [.str s] ∧ s.length ≤ 1000000, fun ts x => ∀ s, ts = [.str s] → x = ints (za8 (Go.Proofs.YtlhagkbhojmjpaaGreatDoor.fin (bs s)))⟩
theorem zei {s : List UInt8} (h : s.length ≤ 1000000) : cellsL.pre [.str s] := ⟨s, rfl, h⟩
theorem zcz {p : List UInt8} {Q : TV → Prop} : (∀ r, cellsL.post [.str p] r → Q r) ↔ Q (ints (za8 (Go.Proofs.YtlhagkbhojmjpaaGreatDoor.fin (bs p)))) :=
  ⟨fun h => h _ fun p' e => by simp only [List.cons.injEq, TV.str.injEq, and_true] at e; rw [e], fun h r hr => by rw [hr p rfl]; exact h⟩
theorem zcw (r : Int) : (oneZ r).length ≤ 7 := by unfold oneZ; split <;> simp [escZ]
theorem zgp (l : List Int) : (za8 l).length ≤ 7 * l.length := by
  induction l with
  | nil => simp [za8]
  | cons a l ih => have := zcw a; simp only [za8, List.flatMap_cons, List.length_append, List.length_cons] at *; omega
theorem zn1 (l : List Int) (r : Int) : za8 (l ++ [r]) = za8 l ++ oneZ r := by simp [za8, List.flatMap_append]
def CI (l : List Int) (xs : List TV) : Prop := ∃ k : Nat, xs = [.int k, ints (za8 (l.take k))] ∧ k ≤ l.length
def Cm (l : List Int) (xs : List TV) : Nat := l.length - (xs.getD 0 (.int 0)).asInt.toNat
def HI (o : List Int) (r : Int) (xs : List TV) : Prop := ∃ k : Nat, xs = [.int k, ints (o ++ 255 :: (hexL r).take k)] ∧ k ≤ 6
def Hm (xs : List TV) : Nat := 6 - (xs.getD 0 (.int 0)).asInt.toNat
theorem ze1 (k : Nat) : Contract Tryz.prog (mkEnv globT []) gtab (zb7 k) cellsL.pre cellsL.post := Contract.env (Γ := mkEnv globT [decodeL, finishL, cellL]) (ze0 (fun _ => rfl) (fun s hs => by
    simp only [cx_computerbraille_Cells, List.mem_cons, List.not_mem_nil, or_false] at hs
    rcases hs with rfl | rfl | rfl
    · exact Contract.inEnv rfl (zo6 0) rfl
    · exact Contract.inEnv rfl (zm5 1) rfl
    · exact Contract.inEnv rfl (cell_c 2) rfl) k (by
  rintro ts hl ⟨s, rfl, hsz⟩
  have fin : ∀ r : TV, r = ints (za8 (Go.Proofs.YtlhagkbhojmjpaaGreatDoor.fin (bs s))) → cellsL.post [.str s] r := fun r hr p' e => by
    simp only [List.cons.injEq, TV.str.injEq, and_true] at e
    subst e
    exact hr
  generalize cellsL.post [.str s] = R at fin ⊢
  unfold tr_computerbraille_Cells
  have hrest := zvw s
  simp only [Tree.den, E.den, P1.den, P2.den, P3.den, qa, qb, qc, qd, qe, qf, qg, qh, zac, zab, zad, zaa, zae, TV.cell, zah, zai, zag, zaf, qi, qj, qk, ql, qm, qn, ne_eq, qo, qp, forall_eq, qs, qt, Int.reduceToNat, qu, exists_eq_left', zch, zb1, decT]
  simp only [Tree.den, E.den, P1.den, P2.den, P3.den, qa, qb, qc, qd, qe, qf, qg, qh, zac, zab, zad, zaa, zae, TV.cell, zah, zai, zag, zaf, qi, qj, qk, ql, qm, qn, ne_eq, qo, qp, forall_eq, qs, qt, Int.reduceToNat, qu, exists_eq_left', zaj, zao, zaq, zan, zap, zam, zal, zar, qv, qq, qr, zak, zb1, hrest, ← zk4]
  have hlen := zls (bs s)
  have hsl := zak s
  have hdl := zfq (bs s)
  have hul := zi3 (dec (bs s)).2
  have hin := zy2 (zer s)
  generalize hl' : Go.Proofs.YtlhagkbhojmjpaaGreatDoor.fin (bs s) = l at *
  refine ⟨zck (by rw [List.length_nil]; omega), zdy (by omega), by omega, CI l, Cm l, ⟨0, rfl, by omega⟩, ?_⟩
  rintro xs _ ⟨k, rfl, hk⟩
  have hD : ∀ o, Cm l [.int (k : Int), o] = l.length - k := fun o => rfl
  have hcl := zgp (l.take k)
  have htl := List.length_take_le k l
  simp only [Tree.den, E.den, P1.den, P2.den, P3.den, qa, qb, qc, qd, qe, qf, qg, qh, zac, zab, zad, zaa, zae, TV.cell, zah, zai, zag, zaf, qi, qj, qk, ql, qm, qn, ne_eq, qo, qp, forall_eq, qs, qt, Int.reduceToNat, qu, exists_eq_left', zaj, zao, zaq, zan, zap, zam, zal, zar, qv, qq, qr, zak, hD, ze8, pairT]
  have e64 : IntKind.wrap .i64 ((k : Int) + 1) = ((k + 1 : Nat) : Int) := by rw [wrap_i64 (n := (k : Int) + 1) (by omega) (by omega)]; omega
  refine ⟨fun hlt => ⟨by omega, by omega, ?_⟩, fun hlt => ?_⟩
  · have hkl : k < l.length := by omega
    have hr := hin (l.getD k 0) (by rw [List.getD_eq_getElem?_getD, List.getElem?_eq_getElem hkl]; exact List.getElem_mem hkl)
    have hs := zbd hkl
    have hone := zcw (l.getD k 0)
    generalize hrr : l.getD k 0 = r at *
    have hnext : ∀ o, o = za8 (l.take k) ++ oneZ r → CI l [.int ((k + 1 : Nat) : Int), ints o] ∧ Cm l [.int ((k + 1 : Nat) : Int), ints o] < l.length - k := fun o ho => by
      refine ⟨⟨k + 1, by rw [hs, zn1, ho], by omega⟩, ?_⟩
      simp only [Cm, List.getD_cons_zero, zac]; omega
    rw [e64]
    refine ⟨ze2 (by omega) (by omega), fun hh => ⟨by omega, hnext _ (by unfold oneZ; rw [if_pos hh])⟩, fun hh => ⟨by omega, HI (za8 (l.take k)) r, Hm, ⟨0, by simp, by omega⟩, ?_⟩⟩
    rintro ys _ ⟨i, rfl, hi⟩
    have hD2 : ∀ o, Hm [.int (i : Int), o] = 6 - i := fun o => rfl
    simp only [Tree.den, E.den, P1.den, P2.den, P3.den, qa, qb, qc, qd, qe, qf, qg, qh, zac, zab, zad, zaa, zae, TV.cell, zah, zai, zag, zaf, qi, qj, qk, ql, qm, qn, ne_eq, qo, qp, forall_eq, qs, qt, Int.reduceToNat, qu, exists_eq_left', zaj, zao, zaq, zan, zap, zam, zal, zar, qv, qq, qr, zak, hD2]
    have w1 : IntKind.wrap .i64 (4 * (i : Int)) = 4 * i := wrap_i64 (by omega) (by omega)
    have w2 : IntKind.wrap .i64 (20 - 4 * (i : Int)) = 20 - 4 * i := wrap_i64 (by omega) (by omega)
    have w3 : IntKind.wrap .i64 ((i : Int) + 1) = ((i + 1 : Nat) : Int) := by rw [wrap_i64 (n := (i : Int) + 1) (by omega) (by omega)]; omega
    rw [w1, w2, w3]
    refine ⟨fun hi6 => ?_, fun hi6 => ?_⟩
    · rw [z82 (i := i) (by omega) (by omega) (by omega)]
      have hlt6 : i < 6 := by omega
      have hg := z1o (r := r) hlt6
      have hd0 := Int.emod_nonneg (r / (2 ^ (20 - 4 * i) : Nat)) (b := 16) (by omega)
      have hd1 := Int.emod_lt_of_pos (r / (2 ^ (20 - 4 * i) : Nat)) (b := 16) (by omega)
      generalize r / (2 ^ (20 - 4 * i) : Nat) % 16 = d at *
      have hdg := zqi hd0 hd1
      have hdb := qaa hd0 hd1
      rw [zar] at hdg
      unfold digitsB at hdg
      rw [hdg, zax (n := hexZ d) (by omega) (by omega)]
      have hll : (hexL r).length = 6 := rfl
      have hts := zbd (l := hexL r) (k := i) (by omega)
      refine ⟨by omega, by omega, by omega, ze2 (by omega) (by omega), by simp; omega, ⟨i + 1, ?_, by omega⟩, ?_⟩
      · rw [hts, hg]; simp
      · simp only [Hm, List.getD_cons_zero, zac]; omega
    · have : i = 6 := by omega
      subst this
      refine hnext _ ?_
      have hh' : hasZ r = false := hh
      unfold oneZ
      rw [if_neg (by rw [hh']; decide), ziu]
      rfl
  · have : k = l.length := by omega
    subst this
    rw [List.take_of_length_le (Nat.le_refl _)]
    exact fin _ rfl)) rfl
end Go.Proofs.YtlhagkbhojmjpaaGreatDoor
namespace Go.Proofs.YtlhagkbhojmjpaaGreatDoor
set_option linter.unusedSimpArgs false
set_option linter.unusedVariables false
set_option linter.unusedSectionVars false
def trueL (pre : List TV → Prop) : Law := ⟨pre, fun _ r => r = .bool true⟩
end Go.Proofs.YtlhagkbhojmjpaaGreatDoor
namespace Go.Proofs.YtlhagkbhojmjpaaGreatDoor
set_option linter.unusedSimpArgs false
set_option linter.unusedVariables false
set_option linter.unusedSectionVars false
end Go.Proofs.YtlhagkbhojmjpaaGreatDoor
namespace Go.Proofs.YtlhagkbhojmjpaaGreatDoor
set_option linter.unusedSimpArgs false
set_option linter.unusedVariables false
set_option linter.unusedSectionVars false
end Go.Proofs.YtlhagkbhojmjpaaGreatDoor

