/- The plain law of the text of cells. -/
import Derived.Test.YtbeelajedknohaaDoorBij
import Derived.Test.YtbeelajedknohaaDoorCr
import Derived.Test.YtbeelajedknohaaDoorEnc
namespace Go.Proofs.YtbeelajedknohaaDoor
set_option linter.unusedSimpArgs false
set_option linter.unusedVariables false
set_option linter.unusedSectionVars false

def digZ (c : Int) : Int := if 48 ≤ runeZ c ∧ runeZ c ≤ 57 then runeZ c - 48 else if 97 ≤ runeZ c ∧ runeZ c ≤ 102 then runeZ c - 87 else -1
def numF : List Int → Int → Option Int
  | [], n => some n
  | c :: l, n => if digZ c < 0 then none else numF l (16 * n + digZ c)
def badN (n : Int) : Prop := (32 ≤ n ∧ n ≤ 126) ∨ 1114111 < n ∨ (55296 ≤ n ∧ n ≤ 57343)
instance (n : Int) : Decidable (badN n) := by unfold badN; infer_instance
def charZ (l : List Int) : Option Int := match numF l 0 with
  | some n => if badN n then none else some n
  | none => none
def textG : Nat → List Int → Option (List Int)
  | _, [] => some []
  | 0, _ :: _ => none
  | k + 1, c :: l => if c = 255 then (if l.length < 6 then none else match charZ (l.take 6) with
      | some n => (textG k (l.drop 6)).map (n :: ·)
      | none => none)
    else if runeZ c = 65533 then none else (textG k l).map (runeZ c :: ·)
def textZ (l : List Int) : Option (List Int) := textG l.length l
theorem textG_le : ∀ (k j : Nat) (l : List Int), l.length ≤ k → l.length ≤ j → textG k l = textG j l
  | _, _, [], _, _ => by unfold textG; rfl
  | 0, _, _ :: _, h, _ => by simp at h
  | _, 0, _ :: _, _, h => by simp at h
  | k + 1, j + 1, c :: l, h, h' => by
    simp only [List.length_cons] at h h'
    unfold textG
    rw [textG_le k j l (by omega) (by omega), textG_le k j (l.drop 6) (by rw [List.length_drop]; omega) (by rw [List.length_drop]; omega)]
theorem textZ_nil : textZ [] = some [] := rfl
theorem textZ_cons (c : Int) (l : List Int) : textZ (c :: l) = if c = 255 then (if l.length < 6 then none else match charZ (l.take 6) with
      | some n => (textZ (l.drop 6)).map (n :: ·)
      | none => none)
    else if runeZ c = 65533 then none else (textZ l).map (runeZ c :: ·) := by
  unfold textZ
  rw [List.length_cons]
  conv => lhs; unfold textG
  rw [textG_le l.length (l.drop 6).length (l.drop 6) (by rw [List.length_drop]; omega) (Nat.le_refl _)]
theorem dig_bd (c : Int) : -1 ≤ digZ c ∧ digZ c ≤ 15 := by
  unfold digZ
  split
  · omega
  · split <;> omega
theorem numF_bd : ∀ (l : List Int) (n m : Int), numF l n = some m → 0 ≤ n → 0 ≤ m ∧ m ≤ 16 ^ l.length * n + 16 ^ l.length - 1
  | [], n, m, h, h0 => by simp [numF] at h; subst h; simp; omega
  | c :: l, n, m, h, h0 => by
    unfold numF at h
    split at h
    · cases h
    · have hd := dig_bd c
      obtain ⟨h1, h2⟩ := numF_bd l _ m h (by omega)
      refine ⟨h1, ?_⟩
      rw [List.length_cons, Int.pow_succ]
      have hp : (0 : Int) ≤ 16 ^ l.length := Int.le_of_lt (Int.pow_pos (by omega))
      have : 16 ^ l.length * (16 * n + digZ c) ≤ 16 ^ l.length * (16 * n + 15) := Int.mul_le_mul_of_nonneg_left (by omega) hp
      have e1 : (16 : Int) ^ l.length * (16 * n + 15) = 16 ^ l.length * 16 * n + 16 ^ l.length * 16 - 16 ^ l.length := by rw [Int.mul_add, Int.mul_assoc]; omega
      omega

/-! ### To and fro -/
theorem dig_hex {d : Int} (h : 0 ≤ d) (k : d < 16) : digZ (cellZ (hexZ d)) = d := by
  obtain ⟨n, rfl⟩ := Int.eq_ofNat_of_zero_le h
  have key : ∀ n : Fin 16, digZ (cellZ (hexZ ((n.val : Nat) : Int))) = (n.val : Nat) := by decide +kernel
  exact key ⟨n, by omega⟩
theorem hex_dig {c : Int} (h : 0 ≤ c) (k : c ≤ 255) (hd : 0 ≤ digZ c) : cellZ (hexZ (digZ c)) = c := by
  obtain ⟨n, rfl⟩ := Int.eq_ofNat_of_zero_le h
  have key : ∀ n : Fin 256, 0 ≤ digZ ((n.val : Nat) : Int) → cellZ (hexZ (digZ ((n.val : Nat) : Int))) = (n.val : Nat) := by decide +kernel
  exact key ⟨n, by omega⟩ hd
theorem num_hex {n : Int} (h : 0 ≤ n) (k : n ≤ 1114111) : numF (hexL n) 0 = some n := by
  unfold hexL
  have d : ∀ x : Int, digZ (cellZ (hexZ (x % 16))) = x % 16 := fun x => dig_hex (by omega) (by omega)
  simp only [numF, d]
  rw [if_neg (by omega), if_neg (by omega), if_neg (by omega), if_neg (by omega), if_neg (by omega), if_neg (by omega)]
  congr 1
  omega
theorem text_one {r : Int} (h : isCh r) (m : List Int) : textZ (oneZ r ++ m) = (textZ m).map (r :: ·) := by
  unfold isCh at h
  unfold oneZ
  by_cases hh : hasZ r = true
  · rw [if_pos hh]
    obtain ⟨h1, h2⟩ := hasZ_iff.1 hh
    obtain ⟨h3, h4⟩ := cell_facts h1 h2
    rw [List.singleton_append, textZ_cons, if_neg h3, h4, if_neg (by omega)]
  · rw [if_neg hh, esc_hex, List.cons_append, textZ_cons, if_pos rfl]
    have hl : (hexL r).length = 6 := rfl
    have ht : (hexL r ++ m).take 6 = hexL r := by rw [List.take_append_of_le_length (by omega), List.take_of_length_le (by omega)]
    have hd : (hexL r ++ m).drop 6 = m := by rw [← hl, List.drop_left]
    have hb : ¬ badN r := by
      unfold badN
      have := mt hasZ_iff.2 hh
      omega
    rw [if_neg (by rw [List.length_append]; omega), ht, hd]
    unfold charZ
    rw [num_hex (by omega) (by omega)]
    dsimp only
    rw [if_neg hb]
theorem text_cells {l : List Int} (h : Chars l) : textZ (cellsZ l) = some l := by
  induction l with
  | nil => rfl
  | cons r l ih =>
    have e : cellsZ (r :: l) = oneZ r ++ cellsZ l := rfl
    rw [e, text_one (h r (by simp)), ih fun n hn => h n (by simp [hn])]
    rfl
theorem map_some {α β : Type} {o : Option α} {f : α → β} {y : β} (h : o.map f = some y) : ∃ x, o = some x ∧ f x = y := by
  cases o with
  | none => cases h
  | some x => exact ⟨x, rfl, by simpa using h⟩
theorem num6 {a b c d e f n : Int} (ha : 0 ≤ a ∧ a ≤ 255) (hb : 0 ≤ b ∧ b ≤ 255) (hc : 0 ≤ c ∧ c ≤ 255) (hd : 0 ≤ d ∧ d ≤ 255) (he : 0 ≤ e ∧ e ≤ 255) (hf : 0 ≤ f ∧ f ≤ 255) (h : numF [a, b, c, d, e, f] 0 = some n) : 0 ≤ n ∧ hexL n = [a, b, c, d, e, f] := by
  simp only [numF] at h
  split at h
  · cases h
  · split at h
    · cases h
    · split at h
      · cases h
      · split at h
        · cases h
        · split at h
          · cases h
          · split at h
            · cases h
            · have d1 := dig_bd a
              have d2 := dig_bd b
              have d3 := dig_bd c
              have d4 := dig_bd d
              have d5 := dig_bd e
              have d6 := dig_bd f
              have k1 := hex_dig ha.1 ha.2 (by omega)
              have k2 := hex_dig hb.1 hb.2 (by omega)
              have k3 := hex_dig hc.1 hc.2 (by omega)
              have k4 := hex_dig hd.1 hd.2 (by omega)
              have k5 := hex_dig he.1 he.2 (by omega)
              have k6 := hex_dig hf.1 hf.2 (by omega)
              simp only [Option.some.injEq] at h
              refine ⟨by omega, ?_⟩
              unfold hexL
              rw [show n / 1048576 % 16 = digZ a by omega, show n / 65536 % 16 = digZ b by omega, show n / 4096 % 16 = digZ c by omega, show n / 256 % 16 = digZ d by omega, show n / 16 % 16 = digZ e by omega, show n % 16 = digZ f by omega, k1, k2, k3, k4, k5, k6]
theorem take6 {l : List Int} (h : ¬ l.length < 6) : ∃ a b c d e f m, l = a :: b :: c :: d :: e :: f :: m := by
  match l, h with
  | a :: b :: c :: d :: e :: f :: m, _ => exact ⟨a, b, c, d, e, f, m, rfl⟩
  | [], h => simp at h
  | [_], h => simp at h
  | [_, _], h => simp at h
  | [_, _, _], h => simp at h
  | [_, _, _, _], h => simp at h
  | [_, _, _, _, _], h => simp at h
theorem cells_text : ∀ (k : Nat) (l o : List Int), l.length ≤ k → Byte l → textZ l = some o → Chars o ∧ cellsZ o = l
  | _, [], o, _, _, h => by
    rw [textZ_nil] at h
    simp at h
    subst h
    exact ⟨fun n hn => (by cases hn), rfl⟩
  | 0, _ :: _, o, hk, _, _ => by simp at hk
  | k + 1, c :: l, o, hk, hb, h => by
    simp only [List.length_cons] at hk
    rw [textZ_cons] at h
    have hbl : Byte l := fun x hx => hb x (by simp [hx])
    split at h
    · rename_i h255
      split at h
      · cases h
      · rename_i hlen
        obtain ⟨x1, x2, x3, x4, x5, x6, m, rfl⟩ := take6 hlen
        split at h
        · rename_i n hn
          obtain ⟨o', h1, rfl⟩ := map_some h
          simp only [List.take_succ_cons, List.take_zero] at hn
          simp only [List.drop_succ_cons, List.drop_zero] at h1
          simp only [List.length_cons] at hk
          obtain ⟨hc, he⟩ := cells_text k m o' (by omega) (fun x hx => hbl x (by simp [hx])) h1
          unfold charZ at hn
          split at hn
          · rename_i n' hnum
            split at hn
            · cases hn
            · rename_i hbad
              simp only [Option.some.injEq] at hn
              subst hn
              obtain ⟨h0, hx⟩ := num6 (hbl x1 (by simp)) (hbl x2 (by simp)) (hbl x3 (by simp)) (hbl x4 (by simp)) (hbl x5 (by simp)) (hbl x6 (by simp)) hnum
              unfold badN at hbad
              refine ⟨fun y hy => ?_, ?_⟩
              · rcases List.mem_cons.1 hy with rfl | hy
                · unfold isCh; omega
                · exact hc y hy
              · have e : cellsZ (n' :: o') = oneZ n' ++ cellsZ o' := rfl
                have hh : ¬ hasZ n' = true := fun hh => by have := hasZ_iff.1 hh; omega
                rw [e, he]
                unfold oneZ
                rw [if_neg hh, esc_hex, hx, h255]
                rfl
          · cases hn
        · cases h
    · rename_i h255
      split at h
      · cases h
      · rename_i hrune
        obtain ⟨o', h1, rfl⟩ := map_some h
        obtain ⟨hc, he⟩ := cells_text k l o' (by omega) hbl h1
        have hcb := hb c (by simp)
        rcases rune_facts hcb.1 hcb.2 with hr | ⟨h2, h3, h4⟩
        · exact absurd hr hrune
        · refine ⟨fun y hy => ?_, ?_⟩
          · rcases List.mem_cons.1 hy with rfl | hy
            · unfold isCh; omega
            · exact hc y hy
          · have e : cellsZ (runeZ c :: o') = oneZ (runeZ c) ++ cellsZ o' := rfl
            rw [e, he]
            unfold oneZ
            rw [if_pos (hasZ_iff.2 ⟨h2, h3⟩), h4]
            rfl
theorem text_len : ∀ (k : Nat) (l o : List Int), l.length ≤ k → textZ l = some o → o.length ≤ l.length
  | _, [], o, _, h => by
    rw [textZ_nil] at h
    simp at h
    subst h
    simp
  | 0, _ :: _, o, hk, _ => by simp at hk
  | k + 1, c :: l, o, hk, h => by
    simp only [List.length_cons] at hk ⊢
    rw [textZ_cons] at h
    split at h
    · split at h
      · cases h
      · split at h
        · obtain ⟨o', h1, rfl⟩ := map_some h
          have := text_len k (l.drop 6) o' (by rw [List.length_drop]; omega) h1
          rw [List.length_drop] at this
          simp; omega
        · cases h
    · split at h
      · cases h
      · obtain ⟨o', h1, rfl⟩ := map_some h
        have := text_len k l o' (by omega) h1
        simp; omega
/-- A beginning of an escape is no text. -/
theorem text_part {r : Int} {i : Nat} (h0 : 0 < i) (h1 : i < (oneZ r).length) : textZ ((oneZ r).take i) = none := by
  unfold oneZ at *
  split
  · rename_i hh
    rw [if_pos hh] at h1
    simp at h1
    omega
  · rename_i hh
    rw [if_neg hh] at h1
    obtain ⟨j, rfl⟩ : ∃ j, i = j + 1 := ⟨i - 1, by omega⟩
    rw [esc_hex] at h1 ⊢
    have hl : (hexL r).length = 6 := rfl
    rw [List.length_cons] at h1
    rw [List.take_succ_cons, textZ_cons, if_pos rfl, if_pos (by rw [List.length_take]; omega)]
end Go.Proofs.YtbeelajedknohaaDoor
