/- The plain law of UTF-8 encoding: what is encoded decodes to itself; what is valid is encoded. -/
import Derived.Test.YtbeelajedknohaaDoorDec
import Derived.Test.YtbeelajedknohaaDoorFc
import Derived.Lib.MapLaws
import Derived.Lib.ValidLaws
import Derived.Lib.TrimUEq
namespace Go.Proofs.YtbeelajedknohaaDoor
set_option linter.unusedSimpArgs false
set_option linter.unusedVariables false
open Go.Lib (encodeRuneZ encodeRune decodeL decodeN validD)

def isCh (n : Int) : Prop := 0 ≤ n ∧ n ≤ 1114111 ∧ ¬ (55296 ≤ n ∧ n ≤ 57343)
instance (n : Int) : Decidable (isCh n) := by unfold isCh; infer_instance
def chZ (n : Int) : Int := if isCh n then n else 65533
def encZ (l : List Int) : List Int := l.flatMap encodeRuneZ
def Chars (l : List Int) : Prop := ∀ n ∈ l, isCh n
theorem chZ_ch (n : Int) : isCh (chZ n) := by
  unfold chZ
  split
  · assumption
  · decide
theorem chZ_of {n : Int} (h : isCh n) : chZ n = n := by unfold chZ; rw [if_pos h]
theorem chZs_ch (l : List Int) : Chars (l.map chZ) := fun n hn => by
  obtain ⟨m, _, rfl⟩ := List.mem_map.1 hn
  exact chZ_ch m
theorem chZs_of : ∀ {l : List Int}, Chars l → l.map chZ = l
  | [], _ => rfl
  | n :: l, h => by rw [List.map_cons, chZ_of (h n (by simp)), chZs_of fun m hm => h m (by simp [hm])]
theorem encZ_nil : encZ [] = [] := rfl
theorem encZ_cons (n : Int) (l : List Int) : encZ (n :: l) = encodeRuneZ n ++ encZ l := rfl
theorem encZ_append (l m : List Int) : encZ (l ++ m) = encZ l ++ encZ m := by simp [encZ]
theorem encZ_one (n : Int) : encZ [n] = encodeRuneZ n := by simp [encZ]
theorem enc_chZ (n : Int) : encodeRuneZ (chZ n) = encodeRuneZ n := by
  unfold chZ
  by_cases h : isCh n
  · rw [if_pos h]
  · rw [if_neg h]
    unfold isCh at h
    have e : encodeRuneZ 65533 = [239, 191, 189] := by decide
    rw [e]
    unfold encodeRuneZ
    rw [if_neg (by omega), if_neg (by omega), if_neg (by omega), if_neg (by omega)]
theorem encZ_chZ (l : List Int) : encZ (l.map chZ) = encZ l := by
  induction l with
  | nil => rfl
  | cons n l ih => rw [List.map_cons, encZ_cons, encZ_cons, ih, enc_chZ]
/-- The forms of an encoded character. -/
theorem enc_cases {n : Int} (h : isCh n) : (n < 128 ∧ encodeRuneZ n = [n]) ∨ (128 ≤ n ∧ n < 2048 ∧ encodeRuneZ n = [192 + n / 64, 128 + n % 64]) ∨
    (2048 ≤ n ∧ n < 65536 ∧ encodeRuneZ n = [224 + n / 4096, 128 + n / 64 % 64, 128 + n % 64]) ∨ (65536 ≤ n ∧ encodeRuneZ n = [240 + n / 262144, 128 + n / 4096 % 64, 128 + n / 64 % 64, 128 + n % 64]) := by
  unfold isCh at h
  unfold encodeRuneZ
  by_cases h1 : n < 128
  · left; exact ⟨h1, by rw [if_pos (by omega)]⟩
  · by_cases h2 : n < 2048
    · right; left; exact ⟨by omega, h2, by rw [if_neg (by omega), if_pos (by omega)]⟩
    · by_cases h3 : n < 65536
      · right; right; left; exact ⟨by omega, h3, by rw [if_neg (by omega), if_neg (by omega), if_pos (by omega)]⟩
      · right; right; right; exact ⟨by omega, by rw [if_neg (by omega), if_neg (by omega), if_neg (by omega), if_pos (by omega)]⟩
theorem enc_len (n : Int) : 1 ≤ (encodeRuneZ n).length ∧ (encodeRuneZ n).length ≤ 4 := by
  unfold encodeRuneZ
  split
  · simp
  · split
    · simp
    · split
      · simp
      · split <;> simp
theorem encZ_len (l : List Int) : l.length ≤ (encZ l).length ∧ (encZ l).length ≤ 4 * l.length := by
  induction l with
  | nil => simp [encZ]
  | cons n l ih => have := enc_len n; rw [encZ_cons, List.length_append, List.length_cons]; omega
theorem enc_byte {n b : Int} (h : b ∈ encodeRuneZ n) : 0 ≤ b ∧ b ≤ 255 := by
  rw [← enc_chZ] at h
  have hc := chZ_ch n
  generalize chZ n = m at *
  have hc' := hc
  unfold isCh at hc'
  rcases enc_cases hc with ⟨_, e⟩ | ⟨_, _, e⟩ | ⟨_, _, e⟩ | ⟨_, e⟩ <;> rw [e] at h <;> simp only [List.mem_cons, List.not_mem_nil, or_false] at h <;> omega
theorem encZ_byte {l : List Int} {b : Int} (h : b ∈ encZ l) : 0 ≤ b ∧ b ≤ 255 := by
  obtain ⟨n, _, h⟩ := List.mem_flatMap.1 h
  exact enc_byte h

/-- A character that was encoded is decoded. -/
theorem dec_enc1 {n : Int} (h : isCh n) : dec (encodeRuneZ n) = ([n], []) := by
  have h' := h
  unfold isCh at h'
  rcases enc_cases h with ⟨h1, e⟩ | ⟨h1, h2, e⟩ | ⟨h1, h2, e⟩ | ⟨h1, e⟩ <;> rw [e]
  · simp [dec, decF, stepD, freshD, h1]
  · have c1 : ¬ 192 + n / 64 < 128 := by omega
    have c2 : lead (192 + n / 64) = 2 := by unfold lead; rw [if_pos (by omega)]
    have c3 : lo1 (192 + n / 64) = 128 := by unfold lo1; rw [if_neg (by omega), if_neg (by omega)]
    have c4 : hi1 (192 + n / 64) = 191 := by unfold hi1; rw [if_neg (by omega), if_neg (by omega)]
    have c5 : 128 ≤ 128 + n % 64 ∧ 128 + n % 64 ≤ 191 := by omega
    have c6 : fst1 (192 + n / 64) = n / 64 := by unfold fst1; rw [if_pos (by omega)]; omega
    simp [dec, decF, stepD, freshD, c1, c2, loK, hiK, leadK, c3, c4, c5, valK, c6]
    omega
  · have c1 : ¬ 224 + n / 4096 < 128 := by omega
    have c2 : lead (224 + n / 4096) = 3 := by unfold lead; rw [if_neg (by omega), if_pos (by omega)]
    have c3 : lo1 (224 + n / 4096) ≤ 128 + n / 64 % 64 ∧ 128 + n / 64 % 64 ≤ hi1 (224 + n / 4096) := by
      unfold lo1 hi1
      constructor
      · split
        · omega
        · split <;> omega
      · split
        · omega
        · split <;> omega
    have c5 : 128 ≤ 128 + n % 64 ∧ 128 + n % 64 ≤ 191 := by omega
    have c6 : fst1 (224 + n / 4096) = n / 4096 := by unfold fst1; rw [if_neg (by omega), if_pos (by omega)]; omega
    simp [dec, decF, stepD, freshD, c1, c2, loK, hiK, leadK, c3, c5, valK, c6]
    omega
  · have c1 : ¬ 240 + n / 262144 < 128 := by omega
    have c2 : lead (240 + n / 262144) = 4 := by unfold lead; rw [if_neg (by omega), if_neg (by omega), if_pos (by omega)]
    have c3 : lo1 (240 + n / 262144) ≤ 128 + n / 4096 % 64 ∧ 128 + n / 4096 % 64 ≤ hi1 (240 + n / 262144) := by
      unfold lo1 hi1
      constructor
      · split
        · omega
        · split <;> omega
      · split
        · omega
        · split <;> omega
    have c4 : 128 ≤ 128 + n / 64 % 64 ∧ 128 + n / 64 % 64 ≤ 191 := by omega
    have c5 : 128 ≤ 128 + n % 64 ∧ 128 + n % 64 ≤ 191 := by omega
    have c6 : fst1 (240 + n / 262144) = n / 262144 := by unfold fst1; rw [if_neg (by omega), if_neg (by omega), if_pos (by omega)]; omega
    simp [dec, decF, stepD, freshD, c1, c2, loK, hiK, leadK, c3, c4, c5, valK, c6]
    omega
theorem dec_enc_app {n : Int} (h : isCh n) (m : List Int) : dec (encodeRuneZ n ++ m) = (n :: (dec m).1, (dec m).2) := by
  rw [dec_split, dec_enc1 h]; simp
theorem dec_encZ_app {l : List Int} (h : Chars l) (m : List Int) : dec (encZ l ++ m) = (l ++ (dec m).1, (dec m).2) := by
  induction l with
  | nil => simp [encZ]
  | cons n l ih =>
    rw [encZ_cons, List.append_assoc, dec_enc_app (h n (by simp)), ih fun m hm => h m (by simp [hm])]
    simp
theorem dec_encZ {l : List Int} (h : Chars l) : dec (encZ l) = (l, []) := by
  have := dec_encZ_app h []
  rw [List.append_nil] at this
  rw [this]
  simp [dec, decF]
theorem dec_encZ_any (l : List Int) : dec (encZ l) = (l.map chZ, []) := by rw [← encZ_chZ, dec_encZ (chZs_ch l)]
theorem fin_encZ (l : List Int) : fin (encZ l) = l.map chZ := by unfold fin; rw [dec_encZ_any]; simp
theorem encZ_inj {l m : List Int} (hl : Chars l) (hm : Chars m) (h : encZ l = encZ m) : l = m := by
  have := dec_encZ hl
  rw [h, dec_encZ hm] at this
  simpa using this.symm

/-! ### Valid strings -/
def validB (s : List UInt8) : Prop := ∃ l, Chars l ∧ bs s = encZ l
theorem bs_enc (n : Int) : bs (encodeRune n) = encodeRuneZ n := by
  unfold bs encodeRune
  rw [List.map_map]
  conv => rhs; rw [← List.map_id (encodeRuneZ n)]
  refine List.map_congr_left fun b hb => ?_
  have := enc_byte hb
  simp only [Function.comp, id]
  rw [show b.toNat.toUInt8 = UInt8.ofNat b.toNat from rfl, UInt8.toNat_ofNat']
  omega
theorem decodeN_char (n b0 b1 b2 b3 : Nat) : isCh ((decodeN n b0 b1 b2 b3).1 : Int) ∨ 128 ≤ b0 ∧ decodeN n b0 b1 b2 b3 = (65533, 1) := by
  rcases Lib.decodeN_shape n b0 b1 b2 b3 with ⟨h, e⟩ | ⟨h, _, _, _, e⟩ | ⟨h, _, _, _, _, h', e⟩ | ⟨h, _, _, _, _, h', _, e⟩ | e
  · left; rw [e]; unfold isCh; dsimp only; omega
  · left; rw [e]; unfold isCh; dsimp only; omega
  · left; rw [e]; unfold isCh; dsimp only; omega
  · left; rw [e]; unfold isCh; dsimp only; omega
  · left; rw [e]; decide
theorem decodeL_ch (l : List UInt8) : isCh ((decodeL l).1 : Int) := by
  rw [Lib.decodeL_N]
  rcases decodeN_char l.length (l.getD 0 0).toNat (l.getD 1 0).toNat (l.getD 2 0).toNat (l.getD 3 0).toNat with h | ⟨_, h⟩
  · exact h
  · rw [h]; decide
theorem valid_of_validD : ∀ (k : Nat) (l : List UInt8), l.length ≤ k → validD l = true → validB l
  | 0, l, hl, h => by
    have : l = [] := List.eq_nil_of_length_eq_zero (by omega)
    subst this
    exact ⟨[], fun n hn => (by cases hn), rfl⟩
  | k + 1, l, hl, h => by
    by_cases hne : l = []
    · subst hne; exact ⟨[], fun n hn => (by cases hn), rfl⟩
    · rw [Lib.validD_step l hne] at h
      split at h
      · cases h
      · rename_i hv
        have hw := Lib.decodeL_width l
        obtain ⟨m, hm, e⟩ := valid_of_validD k (l.drop (decodeL l).2) (by rw [List.length_drop]; have := List.length_pos_iff.2 hne; omega) h
        have he := Lib.encode_decode l hne hv
        refine ⟨((decodeL l).1 : Int) :: m, fun n hn => ?_, ?_⟩
        · rcases List.mem_cons.1 hn with rfl | hn
          · exact decodeL_ch l
          · exact hm n hn
        · rw [encZ_cons, ← bs_enc, he, ← e, ← bs_append, List.take_append_drop]
/-- The decoder's step at an encoded character. -/
theorem decodeL_enc {n : Int} (h : isCh n) {s : List UInt8} {m : List Int} (hs : bs s = encodeRuneZ n ++ m) : ((decodeL s).1 : Int) = n ∧ (decodeL s).2 = (encodeRuneZ n).length ∧ ¬ ((decodeL s).1 = 65533 ∧ (decodeL s).2 = 1) := by
  have h' := h
  unfold isCh at h'
  have hg : ∀ i, ((s.getD i 0).toNat : Int) = (bs s).getD i 0 := bs_get s
  have hl : s.length = (encodeRuneZ n ++ m).length := by rw [← hs, bs_length]
  have g0 := hg 0
  have g1 := hg 1
  have g2 := hg 2
  have g3 := hg 3
  rw [Lib.decodeL_N]
  rw [hs] at g0 g1 g2 g3
  have b0 := (s.getD 0 0).toNat_lt
  generalize (s.getD 0 0).toNat = x0 at *
  generalize (s.getD 1 0).toNat = x1 at *
  generalize (s.getD 2 0).toNat = x2 at *
  generalize (s.getD 3 0).toNat = x3 at *
  generalize s.length = k at *
  clear hg hs
  rcases enc_cases h with ⟨h1, e⟩ | ⟨h1, h2, e⟩ | ⟨h1, h2, e⟩ | ⟨h1, e⟩ <;> rw [e] at g0 g1 g2 g3 hl ⊢ <;> simp only [List.cons_append, List.nil_append, List.getD_cons_zero, List.getD_cons_succ, List.length_cons, List.length_nil, List.length_append] at g0 g1 g2 g3 hl ⊢
  · unfold decodeN
    rw [if_pos (by omega)]
    dsimp only
    omega
  · unfold decodeN
    rw [if_neg (by omega), if_pos (by omega), if_pos (by omega)]
    dsimp only
    omega
  · unfold decodeN
    rw [if_neg (by omega), if_neg (by omega), if_pos (by omega), if_pos (by omega)]
    dsimp only
    omega
  · unfold decodeN
    rw [if_neg (by omega), if_neg (by omega), if_neg (by omega), if_pos (by omega), if_pos (by omega)]
    dsimp only
    omega
theorem bs_nil_iff {s : List UInt8} : bs s = [] ↔ s = [] := by unfold bs; exact List.map_eq_nil_iff
theorem validD_of : ∀ (l : List Int) (s : List UInt8), Chars l → bs s = encZ l → validD s = true
  | [], s, _, h => by
    rw [bs_nil_iff.1 h]
    rfl
  | n :: l, s, hc, h => by
    rw [encZ_cons] at h
    obtain ⟨h1, h2, h3⟩ := decodeL_enc (hc n (by simp)) h
    have hne : s ≠ [] := fun e => by
      subst e
      have := enc_len n
      have h4 := congrArg List.length h
      simp [bs] at h4
      omega
    rw [Lib.validD_step s hne, if_neg h3]
    refine validD_of l _ (fun m hm => hc m (by simp [hm])) ?_
    rw [bs_drop, h, h2, List.drop_left]
theorem validD_iff (s : List UInt8) : validD s = true ↔ validB s := ⟨valid_of_validD _ s (Nat.le_refl _), fun ⟨l, h1, h2⟩ => validD_of l s h1 h2⟩
theorem validB_dec {s : List UInt8} (h : validB s) : Chars (dec (bs s)).1 ∧ (dec (bs s)).2 = [] ∧ encZ (dec (bs s)).1 = bs s ∧ fin (bs s) = (dec (bs s)).1 := by
  obtain ⟨l, h1, h2⟩ := h
  have := dec_encZ h1
  rw [← h2] at this
  refine ⟨by rw [this]; exact h1, by rw [this], by rw [this]; exact h2.symm, ?_⟩
  unfold fin
  rw [this]
  simp
theorem step_in {s : List Int × List Int} {b : Int} (h : 0 ≤ b) (hs : ∀ x ∈ s.2, 0 ≤ x) (hg : Good s.2) (ho : Chars s.1) : Chars (stepD s b).1 ∧ ∀ x ∈ (stepD s b).2, 0 ≤ x := by
  obtain ⟨o, K⟩ := s
  dsimp only at hs hg ho
  have e65 : isCh 65533 := by decide
  have snoc : ∀ {o : List Int} {n : Int}, Chars o → isCh n → Chars (o ++ [n]) := fun ho hn m hm => by
    rcases List.mem_append.1 hm with hm | hm
    · exact ho m hm
    · simp at hm; subst hm; exact hn
  have fresh : ∀ o, Chars o → Chars (freshD o b).1 ∧ ∀ x ∈ (freshD o b).2, 0 ≤ x := fun o ho => by
    unfold freshD
    split
    · refine ⟨snoc ho ?_, fun x hx => by cases hx⟩
      unfold isCh; omega
    · split
      · refine ⟨ho, fun x hx => ?_⟩
        simp at hx; omega
      · exact ⟨snoc ho e65, fun x hx => by cases hx⟩
  unfold stepD
  dsimp only
  split
  · exact fresh o ho
  · split
    · rename_i hne hr
      split
      · rename_i hl
        refine ⟨snoc ho ?_, fun x hx => by cases hx⟩
        match K, hg, hr, hl, hs with
        | [a], hg, hr, hl, hs =>
          have := lead_cases a
          simp only [Good, loK, hiK, leadK, List.length_cons, List.length_nil, List.cons_append, List.nil_append, valK, List.foldl_cons, List.foldl_nil] at *
          unfold lo1 at hr; unfold hi1 at hr; unfold fst1 isCh
          rw [if_pos (by omega)]
          rw [if_neg (by omega), if_neg (by omega), if_neg (by omega), if_neg (by omega)] at hr
          omega
        | [a, c], hg, hr, hl, hs =>
          have := lead_cases a
          simp only [Good, loK, hiK, leadK, List.length_cons, List.length_nil, List.cons_append, List.nil_append, valK, List.foldl_cons, List.foldl_nil] at *
          unfold lo1 hi1 at hg; unfold fst1 isCh
          rw [if_neg (by omega), if_pos (by omega)]
          by_cases ha : a = 224
          · rw [if_pos ha, if_neg (by omega), if_neg (by omega)] at hg; omega
          · by_cases ha2 : a = 237
            · rw [if_neg ha, if_neg (by omega), if_pos ha2] at hg; omega
            · rw [if_neg ha, if_neg (by omega), if_neg ha2, if_neg (by omega)] at hg; omega
        | [a, c, d], hg, hr, hl, hs =>
          have := lead_cases a
          simp only [Good, loK, hiK, leadK, List.length_cons, List.length_nil, List.cons_append, List.nil_append, valK, List.foldl_cons, List.foldl_nil] at *
          unfold lo1 hi1 at hg; unfold fst1 isCh
          rw [if_neg (by omega), if_neg (by omega), if_pos (by omega)]
          by_cases ha : a = 240
          · rw [if_neg (by omega), if_pos ha, if_neg (by omega), if_neg (by omega)] at hg; omega
          · by_cases ha2 : a = 244
            · rw [if_neg (by omega), if_neg ha, if_neg (by omega), if_pos ha2] at hg; omega
            · rw [if_neg (by omega), if_neg ha, if_neg (by omega), if_neg ha2] at hg; omega
      · refine ⟨ho, fun x hx => ?_⟩
        rcases List.mem_append.1 hx with hx | hx
        · exact hs x hx
        · simp at hx; omega
    · exact fresh _ (snoc ho e65)
/-- What is decoded is characters. -/
theorem decF_chars : ∀ (l : List Int) (s : List Int × List Int), (∀ b ∈ l, 0 ≤ b) → (∀ x ∈ s.2, 0 ≤ x) → Good s.2 → Chars s.1 → Chars (decF s l).1
  | [], s, _, _, _, ho => ho
  | b :: l, s, hl, hs, hg, ho => by
    obtain ⟨h1, h2⟩ := step_in (hl b (by simp)) hs hg ho
    exact decF_chars l (stepD s b) (fun x hx => hl x (by simp [hx])) h2 (good_step s b hg) h1
theorem dec_chars (s : List UInt8) : Chars (dec (bs s)).1 := decF_chars (bs s) ([], []) (fun b hb => (bs_mem hb).1) (fun x hx => by cases hx) trivial (fun n hn => by cases hn)
theorem fin_chars (s : List UInt8) : Chars (fin (bs s)) := fun n hn => by
  unfold fin at hn
  rcases List.mem_append.1 hn with hn | hn
  · exact dec_chars s n hn
  · split at hn
    · cases hn
    · simp at hn; subst hn; decide
/-- A string is valid just if it is what its characters encode. -/
theorem validB_iff (s : List UInt8) : validB s ↔ (dec (bs s)).2 = [] ∧ encZ (dec (bs s)).1 = bs s :=
  ⟨fun h => ⟨(validB_dec h).2.1, (validB_dec h).2.2.1⟩, fun h => ⟨(dec (bs s)).1, dec_chars s, h.2.symm⟩⟩

/-- Go's own conversion. -/
theorem runesFrom_of : ∀ (l : List Int) (s : ByteArray) (k i : Nat) (acc : Array Value), Chars l → bs (s.data.toList.drop i) = encZ l → (encZ l).length ≤ k → i ≤ s.size → (Conv.runesFrom s k i acc).toList = acc.toList ++ l.map (Value.int .i32)
  | [], s, k, i, acc, _, h, hk, hi => by
    have h0 := bs_nil_iff.1 h
    have h1 := congrArg List.length h0
    rw [List.length_drop, List.length_nil] at h1
    have h2 : s.data.toList.length = s.size := Array.length_toList
    have e : ¬ i < s.size := by omega
    cases k with
    | zero => simp [Conv.runesFrom]
    | succ k => simp [Conv.runesFrom, e]
  | n :: l, s, k, i, acc, hc, h, hk, hi => by
    rw [encZ_cons] at h hk
    obtain ⟨h1, h2, _⟩ := decodeL_enc (hc n (by simp)) h
    have hel := enc_len n
    have hlt : i < s.size := by
      have h1 := congrArg List.length h
      have h2 : s.data.toList.length = s.size := Array.length_toList
      rw [bs_length, List.length_drop, List.length_append] at h1
      omega
    rw [List.length_append] at hk
    cases k with
    | zero => omega
    | succ k =>
      rw [Lib.decodeL_drop] at h1 h2
      simp only [Conv.runesFrom, if_pos hlt]
      have e : Utf8.decode s i = ((Utf8.decode s i).1, (Utf8.decode s i).2) := rfl
      rw [e]
      dsimp only
      have hd : bs (s.data.toList.drop (i + (Utf8.decode s i).2)) = encZ l := by
        rw [← List.drop_drop, bs_drop, h, h2, List.drop_left]
      have hi2 : i + (Utf8.decode s i).2 ≤ s.size := by
        have h1 := congrArg List.length h
        have h2' : s.data.toList.length = s.size := Array.length_toList
        rw [bs_length, List.length_drop, List.length_append] at h1
        rw [h2]
        omega
      rw [runesFrom_of l s k _ _ (fun m hm => hc m (by simp [hm])) hd (by omega) hi2]
      simp only [Array.toList_push, List.map_cons, List.append_assoc, List.cons_append, List.nil_append]
      rw [show Int.ofNat (Utf8.decode s i).1 = n from h1]
theorem runeList_valid {s : List UInt8} (h : validB s) : runeList s = (dec (bs s)).1.map TV.int := by
  obtain ⟨h1, h2, h3, _⟩ := validB_dec h
  unfold runeList
  rw [runesFrom_of (dec (bs s)).1 ⟨s.toArray⟩ s.length 0 #[] h1 (by rw [h3]; rfl) (by rw [h3, bs_length]; exact Nat.le_refl _) (Nat.zero_le _)]
  simp [List.map_map, Function.comp_def]
end Go.Proofs.YtbeelajedknohaaDoor
