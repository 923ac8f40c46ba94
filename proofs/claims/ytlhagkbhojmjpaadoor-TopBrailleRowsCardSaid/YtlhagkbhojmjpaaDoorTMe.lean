/- Written by this repo's own program out of its texts. -/
import Derived.Shelf.Small.Strs
import Derived.Test.YtlhagkbhojmjpaaDoorTMa
import Derived.Test.YtlhagkbhojmjpaaDoorTMc
import Derived.Test.YtlhagkbhojmjpaaDoorTMj
import Derived.Test.YtlhagkbhojmjpaaDoorTMd
import Derived.Test.YtlhagkbhojmjpaaDoorTD1
namespace Go.Proofs.YtlhagkbhojmjpaaDoor
set_option linter.unusedSimpArgs false
set_option linter.unusedVariables false
set_option linter.unusedSectionVars false
open Go.Shelf Go.RowKit
def zse : Ren := ⟨fun n => if n = 137 then 123 else if n = 217 then 135 else if n = 266 then 143 else 0, fun n => if n = 3 then 3 else if n = 5 then 5 else if n = 9 then 9 else 0, fun n => 0⟩
set_option maxRecDepth 100000 in
theorem zp3 : Lays.n137 Tryd.prog zse where
  mixed := by kernel_rfl
  f137 := by kernel_rfl
  f217 := by kernel_rfl
  f266 := by kernel_rfl
  t3 := by kernel_rfl
  a3 := fun w => by kernel_rfl
  z3 := fun w => by kernel_rfl
  v3 := fun w => by kernel_rfl
  t5 := by kernel_rfl
  a5 := fun w => by kernel_rfl
  z5 := fun w => by kernel_rfl
  v5 := fun w => by kernel_rfl
  t9 := by kernel_rfl
  a9 := fun w => by kernel_rfl
  z9 := fun w => by kernel_rfl
  v9 := fun w => by kernel_rfl
end Go.Proofs.YtlhagkbhojmjpaaDoor
namespace Go.Proofs.YtlhagkbhojmjpaaDoor
set_option linter.unusedSimpArgs false
set_option linter.unusedVariables false
set_option linter.unusedSectionVars false
def digZ (c : Int) : Int := if 48 ≤ runeZ c ∧ runeZ c ≤ 57 then runeZ c - 48 else if 97 ≤ runeZ c ∧ runeZ c ≤ 102 then runeZ c - 87 else -1
def numF : List Int → Int → Option Int
  | [], n => some n
  | c :: l, n => if digZ c < 0 then none else numF l (16 * n + digZ c)
def badN (n : Int) : Prop := (32 ≤ n ∧ n ≤ 126) ∨ 1114111 < n ∨ (55296 ≤ n ∧ n ≤ 57343)
instance (n : Int) : Decidable (badN n) := by unfold badN; infer_instance
def charZ (l : List Int) : Option Int := match numF l 0 with
  | some n => if badN n then none else some n
  | none => none
def textG : Nat → List Int → Option (List Int)
  | _, [] => some []
  | 0, _ :: _ => none
  | k + 1, c :: l => if c = 255 then (if l.length < 6 then none else match charZ (l.take 6) with
      | some n => (textG k (l.drop 6)).map (n :: ·)
      | none => none)
    else if runeZ c = 65533 then none else (textG k l).map (runeZ c :: ·)
def textZ (l : List Int) : Option (List Int) := textG l.length l
theorem zsx : ∀ (k j : Nat) (l : List Int), l.length ≤ k → l.length ≤ j → textG k l = textG j l
  | _, _, [], _, _ => by unfold textG; rfl
  | 0, _, _ :: _, h, _ => by simp at h
  | _, 0, _ :: _, _, h => by simp at h
  | k + 1, j + 1, c :: l, h, h' => by
    simp only [List.length_cons] at h h'
    unfold textG
    rw [zsx k j l (by omega) (by omega), zsx k j (l.drop 6) (by rw [List.length_drop]; omega) (by rw [List.length_drop]; omega)]
theorem zf3 : textZ [] = some [] := rfl
theorem zcv (c : Int) (l : List Int) : textZ (c :: l) = if c = 255 then (if l.length < 6 then none else match charZ (l.take 6) with
      | some n => (textZ (l.drop 6)).map (n :: ·)
      | none => none)
    else if runeZ c = 65533 then none else (textZ l).map (runeZ c :: ·) := by
  unfold textZ
  rw [List.length_cons]
  conv => lhs; unfold textG
  rw [zsx l.length (l.drop 6).length (l.drop 6) (by rw [List.length_drop]; omega) (Nat.le_refl _)]
theorem zi6 (c : Int) : -1 ≤ digZ c ∧ digZ c ≤ 15 := by
  unfold digZ
  split
  · omega
  · split <;> omega
theorem qa0 : ∀ (l : List Int) (n m : Int), numF l n = some m → 0 ≤ n → 0 ≤ m ∧ m ≤ 16 ^ l.length * n + 16 ^ l.length - 1
  | [], n, m, h, h0 => by simp [numF] at h; subst h; simp; omega
  | c :: l, n, m, h, h0 => by
    unfold numF at h
    split at h
    · cases h
    · have hd := zi6 c
      obtain ⟨h1, h2⟩ := qa0 l _ m h (by omega)
      refine ⟨h1, ?_⟩
      rw [List.length_cons, Int.pow_succ]
      have hp : (0 : Int) ≤ 16 ^ l.length := Int.le_of_lt (Int.pow_pos (by omega))
      have : 16 ^ l.length * (16 * n + digZ c) ≤ 16 ^ l.length * (16 * n + 15) := Int.mul_le_mul_of_nonneg_left (by omega) hp
      have e1 : (16 : Int) ^ l.length * (16 * n + 15) = 16 ^ l.length * 16 * n + 16 ^ l.length * 16 - 16 ^ l.length := by rw [Int.mul_add, Int.mul_assoc]; omega
      omega
theorem dig_hex {d : Int} (h : 0 ≤ d) (k : d < 16) : digZ (cellZ (hexZ d)) = d := by
  obtain ⟨n, rfl⟩ := Int.eq_ofNat_of_zero_le h
  have key : ∀ n : Fin 16, digZ (cellZ (hexZ ((n.val : Nat) : Int))) = (n.val : Nat) := by decide +kernel
  exact key ⟨n, by omega⟩
theorem num_hex {n : Int} (h : 0 ≤ n) (k : n ≤ 1114111) : numF (hexL n) 0 = some n := by
  unfold hexL
  have d : ∀ x : Int, digZ (cellZ (hexZ (x % 16))) = x % 16 := fun x => dig_hex (by omega) (by omega)
  simp only [numF, d]
  rw [if_neg (by omega), if_neg (by omega), if_neg (by omega), if_neg (by omega), if_neg (by omega), if_neg (by omega)]
  congr 1
  omega
theorem z17 {r : Int} (h : isCh r) (m : List Int) : textZ (oneZ r ++ m) = (textZ m).map (r :: ·) := by
  unfold isCh at h
  unfold oneZ
  by_cases hh : hasZ r = true
  · rw [if_pos hh]
    obtain ⟨h1, h2⟩ := hasZ_iff.1 hh
    obtain ⟨h3, h4⟩ := zrg h1 h2
    rw [List.singleton_append, zcv, if_neg h3, h4, if_neg (by omega)]
  · rw [if_neg hh, ziu, List.cons_append, zcv, if_pos rfl]
    have hl : (hexL r).length = 6 := rfl
    have ht : (hexL r ++ m).take 6 = hexL r := by rw [List.take_append_of_le_length (by omega), List.take_of_length_le (by omega)]
    have hd : (hexL r ++ m).drop 6 = m := by rw [← hl, List.drop_left]
    have hb : ¬ badN r := by
      unfold badN
      have := mt hasZ_iff.2 hh
      omega
    rw [if_neg (by rw [List.length_append]; omega), ht, hd]
    unfold charZ
    rw [num_hex (by omega) (by omega)]
    dsimp only
    rw [if_neg hb]
theorem text_cells {l : List Int} (h : Chars l) : textZ (za8 l) = some l := by
  induction l with
  | nil => rfl
  | cons r l ih =>
    have e : za8 (r :: l) = oneZ r ++ za8 l := rfl
    rw [e, z17 (h r (by simp)), ih fun n hn => h n (by simp [hn])]
    rfl
theorem map_some {α β : Type} {o : Option α} {f : α → β} {y : β} (h : o.map f = some y) : ∃ x, o = some x ∧ f x = y := by
  cases o with
  | none => cases h
  | some x => exact ⟨x, rfl, by simpa using h⟩
theorem zfs : ∀ (k : Nat) (l o : List Int), l.length ≤ k → textZ l = some o → o.length ≤ l.length
  | _, [], o, _, h => by
    rw [zf3] at h
    simp at h
    subst h
    simp
  | 0, _ :: _, o, hk, _ => by simp at hk
  | k + 1, c :: l, o, hk, h => by
    simp only [List.length_cons] at hk ⊢
    rw [zcv] at h
    split at h
    · split at h
      · cases h
      · split at h
        · obtain ⟨o', h1, rfl⟩ := map_some h
          have := zfs k (l.drop 6) o' (by rw [List.length_drop]; omega) h1
          rw [List.length_drop] at this
          simp; omega
        · cases h
    · split at h
      · cases h
      · obtain ⟨o', h1, rfl⟩ := map_some h
        have := zfs k l o' (by omega) h1
        simp; omega
end Go.Proofs.YtlhagkbhojmjpaaDoor
namespace Go.Proofs.YtlhagkbhojmjpaaDoor
set_option linter.unusedSimpArgs false
set_option linter.unusedVariables false
set_option linter.unusedSectionVars false
open Go.RowKit
def sibL : Law := ⟨fun ts => ∃ (s : List UInt8) (c : Int), ts = [.str s, .int c] ∧ (s.length ≤ 1000000), fun ts z₀ => ∀ (s : List UInt8) (c : Int), ts = [.str s, .int c] → z₀ = .int (Lib.indexByte s c.toNat.toUInt8)⟩
theorem sib_pre {s : List UInt8} {c : Int} (h : s.length ≤ 1000000) : sibL.pre [.str s, .int c] := ⟨s, c, rfl, h⟩
theorem z96 {s : List UInt8} {c : Int} {z₀ : TV} (h : z₀ = .int (Lib.indexByte s c.toNat.toUInt8)) : sibL.post [.str s, .int c] z₀ := fun s₁ c₁ e => by
  simp only [List.cons.injEq, TV.str.injEq, TV.int.injEq, TV.bool.injEq, TV.agg.injEq, TV.list.injEq, zat, and_true, true_and, and_assoc] at e; obtain ⟨rfl, rfl⟩ := e
  exact h
theorem sib_all {s : List UInt8} {c : Int} {Q : TV → Prop} : (∀ z₀, sibL.post [.str s, .int c] z₀ → Q z₀) ↔ Q (.int (Lib.indexByte s c.toNat.toUInt8)) := ⟨fun h => h _ (z96 rfl), fun h z₀ hr => by rw [hr _ _ rfl]; exact h⟩
theorem sib_c (k : Nat) : Contract Tryd.prog (mkEnv globT []) gtab (zhg k) sibL.pre sibL.post :=
  Contract.leaf ⟨_, Tryd.f123.body.getD .skip, Tryd.func123, by kernel_rfl, by kernel_rfl⟩ fun w ts vs hg ha hp => by
    obtain ⟨s, c, rfl, hp⟩ := hp
    obtain ⟨v0, vs0, e0, h0, ha⟩ := zcl ha
    obtain ⟨v1, vs1, e1, h1, ha⟩ := zcl ha
    obtain ⟨_, e2⟩ := zgh ha
    have h0 := zrj h0
    have h1 := argRep_int h1
    subst h0 h1 e2 e1
    have ev : vs = #[.string ⟨s.toArray⟩, .int .u8 c] := by apply Array.toList_inj.1; rw [e0]
    subst ev
    refine ⟨.int (Lib.indexByte s c.toNat.toUInt8), .int .i64 (Lib.indexByte s c.toNat.toUInt8), fun M => .int _ (.int _), z96 rfl, ?_⟩
    exact (Any.strings_IndexByte zp3 ⟨s.toArray⟩ c w).mono fun e w' ⟨he, hw⟩ => ⟨by rw [he], by rw [hw]; exact Below.refl _ _⟩
end Go.Proofs.YtlhagkbhojmjpaaDoor
namespace Go.Proofs.YtlhagkbhojmjpaaDoor
set_option linter.unusedSimpArgs false
set_option linter.unusedVariables false
set_option linter.unusedSectionVars false
theorem zh2 (l : List Int) (i j : Nat) : TV.list (((l.map TV.int).drop i).take j) = ints ((l.drop i).take j) := by unfold ints; rw [List.map_take, List.map_drop]
theorem zb3 (l : List Int) (i : Nat) : TV.list (((l.map TV.int).drop i).take (l.length - i)) = ints (l.drop i) := by rw [zh2, List.take_of_length_le (by rw [List.length_drop]; omega)]
theorem Byte.drop {l : List Int} (h : Byte l) (i : Nat) : Byte (l.drop i) := fun b hb => h b (List.mem_of_mem_drop hb)
theorem Byte.take {l : List Int} (h : Byte l) (i : Nat) : Byte (l.take i) := fun b hb => h b (List.mem_of_mem_take hb)
theorem zcd {l : List Int} {k : Nat} (h : k < l.length) : l.drop k = l.getD k 0 :: l.drop (k + 1) := by
  rw [List.drop_eq_getElem_cons h, List.getD_eq_getElem?_getD, List.getElem?_eq_getElem h]
  rfl
theorem zgz {c : Int} (hc : 0 ≤ c ∧ c ≤ 255) : 32 ≤ runeZ c ∧ runeZ c ≤ 65533 := by
  rcases zr2 hc.1 hc.2 with h | ⟨h1, h2, _⟩
  · omega
  · omega
theorem dig_idx {c : Int} (hc : 0 ≤ c ∧ c ≤ 255) (h : runeZ c < 128) : Lib.indexByte digitsB (IntKind.wrap .u8 (runeZ c)).toNat.toUInt8 = digZ c := by
  obtain ⟨n, rfl⟩ := Int.eq_ofNat_of_zero_le hc.1
  have key : ∀ n : Fin 256, runeZ ((n.val : Nat) : Int) < 128 → Lib.indexByte digitsB (IntKind.wrap .u8 (runeZ ((n.val : Nat) : Int))).toNat.toUInt8 = digZ ((n.val : Nat) : Int) := by decide +kernel
  exact key ⟨n, by omega⟩ h
theorem dig_high {c : Int} (h : 128 ≤ runeZ c) : digZ c < 0 := by
  unfold digZ
  rw [if_neg (by omega), if_neg (by omega)]
  omega
theorem shl4 {n d : Int} (h : 0 ≤ n) (k : n < 1048576) (hd : 0 ≤ d) (hd2 : d < 16) : zbw .i32 (fun x y => x ||| y) (shlOp .i32 n 4) (IntKind.wrap .i32 d) = 16 * n + d := by
  have e : shlOp .i32 n 4 = 16 * n := by
    unfold shlOp
    rw [show Nat.min ((4 : Int).toNat) (IntKind.i32).bits = 4 by decide, zax (by omega) (by omega)]
    omega
  rw [e, zax (n := d) (by omega) (by omega), or_i32 4 (by omega) (by omega) hd (by omega) (by omega)]
def numL : Law := ⟨fun ts => ∃ (l : List Int), ts = [ints l] ∧ (Byte l ∧ l.length = 6), fun ts z₀ => ∀ (l : List Int), ts = [ints l] → z₀ = .int ((charZ l).getD (-1))⟩
theorem num_pre {l : List Int} (h : Byte l ∧ l.length = 6) : numL.pre [ints l] := ⟨l, rfl, h⟩
theorem z7j {l : List Int} {z₀ : TV} (h : z₀ = .int ((charZ l).getD (-1))) : numL.post [ints l] z₀ := fun l₁ e => by
  simp only [List.cons.injEq, TV.str.injEq, TV.int.injEq, TV.bool.injEq, TV.agg.injEq, TV.list.injEq, zat, and_true, true_and, and_assoc] at e; subst e
  exact h
theorem num_all {l : List Int} {Q : TV → Prop} : (∀ z₀, numL.post [ints l] z₀ → Q z₀) ↔ Q (.int ((charZ l).getD (-1))) := ⟨fun h => h _ (z7j rfl), fun h z₀ hr => by rw [hr _ rfl]; exact h⟩
def NI (l : List Int) (xs : List TV) : Prop := ∃ (k : Nat) (n : Int), xs = [.int n, .int k] ∧ k ≤ 6 ∧ numF l 0 = numF (l.drop k) n ∧ 0 ≤ n ∧ n < 16 ^ k
def Nm (xs : List TV) : Nat := 6 - (xs.getD 1 (.int 0)).asInt.toNat
theorem pow16 {k : Nat} (h : k < 6) : (16 : Int) ^ k ≤ 1048576 ∧ (16 : Int) ^ (k + 1) = 16 * 16 ^ k := by
  have key : ∀ k : Fin 6, (16 : Int) ^ k.val ≤ 1048576 ∧ (16 : Int) ^ (k.val + 1) = 16 * 16 ^ k.val := by decide +kernel
  exact key ⟨k, h⟩
theorem num_c (k : Nat) : Contract Tryd.prog (mkEnv globT []) gtab (zcy k) numL.pre numL.post := Contract.env (Γ := mkEnv globT [runeL, sibL]) (zem (fun _ => rfl) (fun s hs => by
    simp only [cx_computerbraille_number, List.mem_cons, List.not_mem_nil, or_false] at hs
    rcases hs with rfl | rfl
    · exact Contract.inEnv rfl (rune_c 0) rfl
    · exact Contract.inEnv rfl (sib_c 1) rfl) k (by
  rintro ts hl ⟨l, rfl, hp⟩
  have hfin : ∀ z₀ : TV, z₀ = .int ((charZ l).getD (-1)) → numL.post [ints l] z₀ := fun z₀ hz₀ => z7j hz₀
  generalize numL.post [ints l] = R at hfin ⊢
  unfold tr_computerbraille_number
  obtain ⟨hb, h6⟩ := hp
  have hdg : [48, 49, 50, 51, 52, 53, 54, 55, 56, 57, 97, 98, 99, 100, 101, 102] = digitsB := rfl
  simp only [Tree.den, E.den, P1.den, P2.den, P3.den, qa, qb, qc, qd, qe, qf, qg, qh, zac, zab, zad, zaa, zae, TV.cell, zah, zai, zag, zaf, qi, qj, qk, ql, qm, qn, ne_eq, qo, qp, forall_eq, qs, qt, Int.reduceToNat, qu, exists_eq_left']
  simp only [Tree.den, E.den, P1.den, P2.den, P3.den, qa, qb, qc, qd, qe, qf, qg, qh, zac, zab, zad, zaa, zae, TV.cell, zah, zai, zag, zaf, qi, qj, qk, ql, qm, qn, ne_eq, qo, qp, forall_eq, qs, qt, Int.reduceToNat, qu, exists_eq_left', zaj, zao, zaq, zan, zap, zam, zal, zar, qv, qq, qr, zak, hdg]
  refine ⟨NI l, Nm, ⟨0, 0, rfl, by omega, rfl, by omega, by omega⟩, ?_⟩
  rintro xs _ ⟨k, n, rfl, hk, he, h0, h1⟩
  have hD : Nm [.int n, .int (k : Int)] = 6 - k := rfl
  simp only [Tree.den, E.den, P1.den, P2.den, P3.den, qa, qb, qc, qd, qe, qf, qg, qh, zac, zab, zad, zaa, zae, TV.cell, zah, zai, zag, zaf, qi, qj, qk, ql, qm, qn, ne_eq, qo, qp, forall_eq, qs, qt, Int.reduceToNat, qu, exists_eq_left', zaj, zao, zaq, zan, zap, zam, zal, zar, qv, qq, qr, zak, hdg, hD, zmv, sib_all]
  have e64 : IntKind.wrap .i64 ((k : Int) + 1) = ((k + 1 : Nat) : Int) := by rw [wrap_i64 (n := (k : Int) + 1) (by omega) (by omega)]; omega
  rw [e64]
  refine ⟨fun hlt => ⟨by omega, by omega, zmp, ?_⟩, fun hlt => ?_⟩
  · have hk6 : k < 6 := by omega
    obtain ⟨p1, p2⟩ := pow16 hk6
    have hc := hb.get k
    have hd := zcd (l := l) (k := k) (by omega)
    generalize l.getD k 0 = c at *
    have hr := zgz hc
    have hdb := zi6 c
    have hnf : numF (c :: l.drop (k + 1)) n = if digZ c < 0 then none else numF (l.drop (k + 1)) (16 * n + digZ c) := rfl
    rw [hd, hnf] at he
    refine ⟨fun h128 => ⟨sib_pre (by decide), ?_⟩, fun h128 => ?_⟩
    · rw [dig_idx hc h128]
      refine ⟨fun hneg => ?_, fun hneg => ?_⟩
      · rw [if_pos hneg] at he
        refine hfin _ ?_
        unfold charZ
        rw [he]
        rfl
      · rw [if_neg hneg] at he
        rw [shl4 h0 (by omega) (by omega) (by omega)]
        refine ⟨⟨k + 1, _, rfl, by omega, he, by omega, by omega⟩, ?_⟩
        simp only [Nm, List.getD_cons_zero, List.getD_cons_succ, zac]
        omega
    · rw [if_pos (dig_high (by omega))] at he
      refine hfin _ ?_
      unfold charZ
      rw [he]
      rfl
  · have : k = 6 := by omega
    subst this
    have hnf : numF [] n = some n := rfl
    rw [List.drop_of_length_le (by omega), hnf] at he
    have hch : charZ l = if badN n then none else some n := by unfold charZ; rw [he]
    rw [hch] at hfin
    by_cases hbad : badN n
    · rw [if_pos hbad] at hfin
      unfold badN at hbad
      repeat' (first
        | exact hfin _ rfl
        | (exfalso; omega)
        | (refine ⟨fun _ => ?_, fun _ => ?_⟩))
    · rw [if_neg hbad] at hfin
      unfold badN at hbad
      repeat' (first
        | exact hfin _ rfl
        | (exfalso; omega)
        | (refine ⟨fun _ => ?_, fun _ => ?_⟩)))) rfl
def textT (l : List Int) : TV := match textZ l with
  | some o => .agg [.str (unbs (encZ o)), .int 0]
  | none => .agg [.str [], .int 17]
theorem zde {l o : List Int} (h : textZ l = some o) : textT l = .agg [.str (unbs (encZ o)), .int 0] := by unfold textT; rw [h]
theorem zbq {l : List Int} (h : textZ l = none) : textT l = .agg [.str [], .int 17] := by unfold textT; rw [h]
theorem Run.snoc {l : List Int} (h : Run l) {n : Int} (h0 : -2147483648 ≤ n) (h1 : n ≤ 2147483647) : Run (l ++ [n]) := fun m hm => by
  rcases List.mem_append.1 hm with hm | hm
  · exact h m hm
  · simp at hm; omega
theorem charZ_ch {l : List Int} {n : Int} (h : charZ l = some n) (hb : Byte l) : 0 ≤ n ∧ n ≤ 1114111 ∧ charZ l ≠ none := by
  refine ⟨?_, ?_, by rw [h]; simp⟩
  all_goals
    unfold charZ at h
    split at h
    · rename_i m hm
      split at h
      · cases h
      · rename_i hbad
        simp only [Option.some.injEq] at h
        subst h
        have := (qa0 l 0 m hm (by omega)).1
        unfold badN at hbad
        omega
    · cases h
def textL : Law := ⟨fun ts => ∃ (l : List Int), ts = [ints l] ∧ (Byte l ∧ l.length ≤ 1000000), fun ts z₀ => ∀ (l : List Int), ts = [ints l] → z₀ = textT l⟩
theorem zsr {l : List Int} (h : Byte l ∧ l.length ≤ 1000000) : textL.pre [ints l] := ⟨l, rfl, h⟩
theorem z1i {l : List Int} {z₀ : TV} (h : z₀ = textT l) : textL.post [ints l] z₀ := fun l₁ e => by
  simp only [List.cons.injEq, TV.str.injEq, TV.int.injEq, TV.bool.injEq, TV.agg.injEq, TV.list.injEq, zat, and_true, true_and, and_assoc] at e; subst e
  exact h
theorem z0t {l : List Int} {Q : TV → Prop} : (∀ z₀, textL.post [ints l] z₀ → Q z₀) ↔ Q (textT l) := ⟨fun h => h _ (z1i rfl), fun h z₀ hr => by rw [hr _ rfl]; exact h⟩
def TI (l : List Int) (xs : List TV) : Prop := ∃ m o : List Int, xs = [ints m, ints o] ∧ textZ l = (textZ m).map (o ++ ·) ∧ Byte m ∧ Run o ∧ o.length + m.length ≤ l.length
def Tm (xs : List TV) : Nat := (xs.getD 0 (.int 0)).asList.length
theorem zji {o : List Int} {n : Int} (x : Option (List Int)) : (x.map (n :: ·)).map (o ++ ·) = x.map ((o ++ [n]) ++ ·) := by cases x <;> simp
theorem text_c (k : Nat) : Contract Tryd.prog (mkEnv globT []) gtab (zce k) textL.pre textL.post := Contract.env (Γ := mkEnv globT [encL, runeL, numL]) (zfj (fun _ => rfl) (fun s hs => by
    simp only [cx_computerbraille_Text, List.mem_cons, List.not_mem_nil, or_false] at hs
    rcases hs with rfl | rfl | rfl
    · exact Contract.inEnv rfl (enc_c 0) rfl
    · exact Contract.inEnv rfl (rune_c 1) rfl
    · exact Contract.inEnv rfl (num_c 2) rfl) k (by
  rintro ts hl ⟨l, rfl, hp⟩
  have hfin : ∀ z₀ : TV, z₀ = textT l → textL.post [ints l] z₀ := fun z₀ hz₀ => z1i hz₀
  generalize textL.post [ints l] = R at hfin ⊢
  unfold tr_computerbraille_Text
  obtain ⟨hb, hsz⟩ := hp
  simp only [Tree.den, E.den, P1.den, P2.den, P3.den, qa, qb, qc, qd, qe, qf, qg, qh, zac, zab, zad, zaa, zae, TV.cell, zah, zai, zag, zaf, qi, qj, qk, ql, qm, qn, ne_eq, qo, qp, forall_eq, qs, qt, Int.reduceToNat, qu, exists_eq_left', zb3]
  simp only [Tree.den, E.den, P1.den, P2.den, P3.den, qa, qb, qc, qd, qe, qf, qg, qh, zac, zab, zad, zaa, zae, TV.cell, zah, zai, zag, zaf, qi, qj, qk, ql, qm, qn, ne_eq, qo, qp, forall_eq, qs, qt, Int.reduceToNat, qu, exists_eq_left', zaj, zao, zaq, zan, zap, zam, zal, zar, qv, qq, qr, zak, zb3]
  refine ⟨TI l, Tm, ⟨l, [], rfl, by cases textZ l <;> simp, hb, fun n hn => (by cases hn), by simp⟩, ?_⟩
  rintro xs _ ⟨m, o, rfl, he, hbm, hro, hlen⟩
  have hD : Tm [ints m, ints o] = m.length := zal m
  have l1 : ∀ z : Int, TV.list [.int z] = ints [z] := fun _ => rfl
  simp only [Tree.den, E.den, P1.den, P2.den, P3.den, qa, qb, qc, qd, qe, qf, qg, qh, zac, zab, zad, zaa, zae, TV.cell, zah, zai, zag, zaf, qi, qj, qk, ql, qm, qn, ne_eq, qo, qp, forall_eq, qs, qt, Int.reduceToNat, qu, exists_eq_left', zaj, zao, zaq, zan, zap, zam, zal, zar, qv, qq, qr, zak, hD, zmv, zhf, zb3]
  simp only [zh2]
  simp only [Tree.den, E.den, P1.den, P2.den, P3.den, qa, qb, qc, qd, qe, qf, qg, qh, zac, zab, zad, zaa, zae, TV.cell, zah, zai, zag, zaf, qi, qj, qk, ql, qm, qn, ne_eq, qo, qp, forall_eq, qs, qt, Int.reduceToNat, qu, exists_eq_left', zaj, zao, zaq, zan, zap, zam, zal, zar, qv, qq, qr, zak, num_all]
  refine ⟨fun hlt => ⟨by omega, zmp, by omega, ?_⟩, fun hlt => ?_⟩
  · have hm : 0 < m.length := by omega
    have hd := zcd hm
    rw [List.drop_zero, Nat.zero_add] at hd
    have hc := hbm.get 0
    generalize m.getD 0 0 = c at *
    have hr := zgz hc
    have htz := zcv c (m.drop 1)
    rw [← hd] at htz
    have hdl : (m.drop 1).length = m.length - 1 := List.length_drop
    have hdd : (m.drop 1).drop 6 = m.drop 7 := by rw [List.drop_drop]
    refine ⟨fun h255 => ⟨fun h7 => ?_, fun h7 => ⟨by omega, num_pre ⟨(hbm.drop 1).take 6, by rw [List.length_take]; omega⟩, ?_⟩⟩, fun h255 => ⟨fun h65 => ?_, fun h65 => ⟨by omega, by omega, ?_⟩⟩⟩
    · rw [if_pos h255, if_pos (by omega)] at htz
      exact hfin _ (zbq (by rw [he, htz]; rfl)).symm
    · rw [if_pos h255, if_neg (by omega), hdd] at htz
      simp only [show 7 - 1 = 6 from rfl]
      cases hch : charZ ((m.drop 1).take 6) with
      | none =>
        rw [hch] at htz
        simp only [Option.getD_none]
        refine ⟨fun _ => hfin _ (zbq (by rw [he, htz]; rfl)).symm, fun h => by omega⟩
      | some n =>
        rw [hch] at htz
        obtain ⟨hn0, hn1, _⟩ := charZ_ch hch ((hbm.drop 1).take 6)
        simp only [Option.getD_some]
        refine ⟨fun h => by omega, fun _ => ⟨by omega, by omega, ⟨m.drop 7, o ++ [n], rfl, ?_, hbm.drop 7, hro.snoc (by omega) (by omega), ?_⟩, ?_⟩⟩
        · rw [he, htz]; dsimp only; rw [zji]
        · rw [List.length_append, List.length_drop, List.length_singleton]; omega
        · simp only [Tm, List.getD_cons_zero, zal, List.length_drop]; omega
    · rw [if_neg h255, if_pos h65] at htz
      exact hfin _ (zbq (by rw [he, htz]; rfl)).symm
    · rw [if_neg h255, if_neg h65] at htz
      refine ⟨⟨m.drop 1, o ++ [runeZ c], rfl, ?_, hbm.drop 1, hro.snoc (by omega) (by omega), ?_⟩, ?_⟩
      · rw [he, htz, zji]
      · rw [List.length_append, List.length_singleton]; omega
      · simp only [Tm, List.getD_cons_zero, zal]; omega
  · have hm : m = [] := List.eq_nil_of_length_eq_zero (by omega)
    subst hm
    refine ⟨ze3 ⟨hro, by omega⟩, hfin _ ?_⟩
    rw [zde (o := o) (by rw [he]; simp [zf3])])) rfl
theorem zuj (l : List Int) {k j : Nat} (h : j < k) : (l.take k).getD j 0 = l.getD j 0 := by
  rw [List.getD_eq_getElem?_getD, List.getElem?_take, if_pos h, List.getD_eq_getElem?_getD]
theorem zom {s : List UInt8} (h : zbl s) : ∃ l, Chars l ∧ bs s = encZ l ∧ fin (bs s) = l := by
  obtain ⟨l, h1, h2⟩ := h
  refine ⟨l, h1, h2, ?_⟩
  rw [h2, zft, zln h1]
theorem zco (s : List UInt8) : (fin (bs s)).length ≤ s.length := by have := zls (bs s); rw [zak] at this; exact this
theorem zwp (x : Int) : 0 ≤ cellZ x ∧ cellZ x ≤ 255 := by
  unfold cellZ
  split
  · omega
  · have key : ∀ i : Nat, 0 ≤ brailleZ.getD i 0 ∧ brailleZ.getD i 0 ≤ 255 := fun i => by
      rcases Nat.lt_or_ge i 95 with h | h
      · have key : ∀ i : Fin 95, 0 ≤ brailleZ.getD i.val 0 ∧ brailleZ.getD i.val 0 ≤ 255 := by decide +kernel
        exact key ⟨i, h⟩
      · rw [List.getD_eq_getElem?_getD, List.getElem?_eq_none (by rw [znt]; exact h)]
        decide
    exact key _
theorem zsk (r : Int) : Byte (oneZ r) := fun b hb => by
  unfold oneZ at hb
  split at hb
  · simp at hb; subst hb; exact zwp _
  · unfold escZ at hb
    simp only [List.mem_cons, List.not_mem_nil, or_false] at hb
    rcases hb with rfl | rfl | rfl | rfl | rfl | rfl | rfl
    · omega
    all_goals exact zwp _
end Go.Proofs.YtlhagkbhojmjpaaDoor

