/- Written by this repo's own program out of its texts. -/
import Derived.Test.YtlhagkbhojmjpaaGreatDoorPFc
import Derived.Lib.MapLaws
import Derived.Lib.ValidLaws
import Derived.Lib.TrimUEq
set_option linter.unusedSimpArgs false
set_option linter.unusedVariables false
namespace Go.Proofs.YtlhagkbhojmjpaaGreatDoor
def lead (b : Int) : Nat := if 194 ≤ b ∧ b ≤ 223 then 2 else if 224 ≤ b ∧ b ≤ 239 then 3 else if 240 ≤ b ∧ b ≤ 244 then 4 else 0
def lo1 (b : Int) : Int := if b = 224 then 160 else if b = 240 then 144 else 128
def hi1 (b : Int) : Int := if b = 237 then 159 else if b = 244 then 143 else 191
def fst1 (b : Int) : Int := if 194 ≤ b ∧ b ≤ 223 then b - 192 else if 224 ≤ b ∧ b ≤ 239 then b - 224 else if 240 ≤ b ∧ b ≤ 244 then b - 240 else 0
def loK : List Int → Int
 | [b] => lo1 b
 | _ => 128
def hiK : List Int → Int
 | [b] => hi1 b
 | _ => 191
def valK : List Int → Int
 | [] => 0
 | b :: r => r.foldl (fun n c => n * 64 + (c - 128)) (fst1 b)
def leadK : List Int → Nat
 | [] => 0
 | b :: _ => lead b
def zba (out : List Int) (b : Int) : List Int × List Int := if b < 128 then (out ++ [b], []) else if 0 < lead b then (out, [b]) else (out ++ [65533], [])
def stepD (s : List Int × List Int) (b : Int) : List Int × List Int :=
 if s.2 = [] then zba s.1 b
 else if loK s.2 ≤ b ∧ b ≤ hiK s.2 then (if s.2.length + 1 = leadK s.2 then (s.1 ++ [valK (s.2 ++ [b])], []) else (s.1, s.2 ++ [b]))
 else zba (s.1 ++ [65533]) b
def decF (s : List Int × List Int) (l : List Int) : List Int × List Int := l.foldl stepD s
def dec (l : List Int) : List Int × List Int := decF ([], []) l
def Good : List Int → Prop
 | [] => True
 | [a] => 0 < lead a
 | [a, b] => 2 < lead a ∧ lo1 a ≤ b ∧ b ≤ hi1 a
 | [a, b, c] => 3 < lead a ∧ lo1 a ≤ b ∧ b ≤ hi1 a ∧ 128 ≤ c ∧ c ≤ 191
 | _ => False
theorem za7 (b : Int) : (lead b = 2 ∧ 194 ≤ b ∧ b ≤ 223) ∨ (lead b = 3 ∧ 224 ≤ b ∧ b ≤ 239) ∨ (lead b = 4 ∧ 240 ≤ b ∧ b ≤ 244) ∨ (lead b = 0 ∧ ¬ (194 ≤ b ∧ b ≤ 244)) := by
 unfold lead
 split
 ·omega
 ·split
  ·omega
  ·split <;> omega
theorem zno (out : List Int) (b : Int) : Good (zba out b).2 := by
 unfold zba
 split
 ·trivial
 ·split
  ·rename_i h; exact h
  ·trivial
theorem zek (s : List Int × List Int) (b : Int) (h : Good s.2) : Good (stepD s b).2 := by
 obtain ⟨out, K⟩ := s
 unfold stepD
 dsimp only
 split
 ·exact zno _ _
 ·rename_i hne
  split
  ·rename_i hr
   split
   ·trivial
   ·rename_i hl
    match K, h, hne, hr, hl with
    | [a], h, _, hr, hl =>
     have := za7 a
     simp only [Good, loK, hiK, leadK, List.length_cons, List.length_nil] at h hr hl
     simp only [List.cons_append, List.nil_append, Good]
     omega
    | [a, c], h, _, hr, hl =>
     have := za7 a
     simp only [Good, loK, hiK, leadK, List.length_cons, List.length_nil] at h hr hl
     simp only [List.cons_append, List.nil_append, Good]
     omega
    | [a, c, d], h, _, hr, hl =>
     have := za7 a
     simp only [Good, loK, hiK, leadK, List.length_cons, List.length_nil] at h hr hl
     omega
  ·exact zno _ _
theorem z92 (l : List Int) : ∀ (s : List Int × List Int), Good s.2 → Good (decF s l).2 := by
 induction l with
 | nil => exact fun s h => h
 | cons b l ih => exact fun s h => ih _ (zek s b h)
theorem zs2 (l : List Int) : Good (dec l).2 := z92 l _ trivial
theorem ze7 (s : List Int × List Int) (l m : List Int) : decF s (l ++ m) = decF (decF s l) m := by simp [decF, List.foldl_append]
theorem zoc (out : List Int) (b : Int) : zba out b = (out ++ (zba [] b).1, (zba [] b).2) := by
 unfold zba
 split
 ·simp
 ·split <;> simp
theorem step_out (out K : List Int) (b : Int) : stepD (out, K) b = (out ++ (stepD ([], K) b).1, (stepD ([], K) b).2) := by
 unfold stepD
 dsimp only
 split
 ·exact zoc _ _
 ·split
  ·split <;> simp
  ·rw [zoc, zoc ([] ++ [65533])]; simp
theorem z2o (l : List Int) : ∀ (out K : List Int), decF (out, K) l = (out ++ (decF ([], K) l).1, (decF ([], K) l).2) := by
 induction l with
 | nil => intro out K; simp [decF]
 | cons b l ih =>
  intro out K
  show decF (stepD (out, K) b) l = _
  rw [step_out, ih]
  have e : decF ([], K) (b :: l) = decF (stepD ([], K) b) l := rfl
  rw [e]
  rw [show stepD ([], K) b = ((stepD ([], K) b).1, (stepD ([], K) b).2) from rfl, ih (stepD ([], K) b).1]
  simp
theorem z2m (K : List Int) (h : Good K) : dec K = ([], K) := by
 match K, h with
 | [], _ => rfl
 | [a], h =>
  have := za7 a
  simp only [Good] at h
  have e : ¬ a < 128 := by omega
  simp [dec, decF, stepD, zba, e, h]
 | [a, b], h =>
  have := za7 a
  simp only [Good] at h
  have e : ¬ a < 128 := by omega
  have e2 : 0 < lead a := by omega
  have e3 : ¬ 2 = lead a := by omega
  simp [dec, decF, stepD, zba, e, e2, loK, hiK, leadK, h.2.1, h.2.2, e3]
 | [a, b, c], h =>
  have := za7 a
  simp only [Good] at h
  have e : ¬ a < 128 := by omega
  have e2 : 0 < lead a := by omega
  have e3 : ¬ 2 = lead a := by omega
  have e4 : ¬ 3 = lead a := by omega
  simp [dec, decF, stepD, zba, e, e2, loK, hiK, leadK, h.2.1, h.2.2.1, h.2.2.2.1, h.2.2.2.2, e3, e4]
theorem zop (K l : List Int) (h : Good K) : dec (K ++ l) = decF ([], K) l := by
 unfold dec
 rw [ze7]
 have := z2m K h
 unfold dec at this
 rw [this]
theorem z7a (l m : List Int) : dec (l ++ m) = ((dec l).1 ++ (dec ((dec l).2 ++ m)).1, (dec ((dec l).2 ++ m)).2) := by
 rw [zop _ _ (zs2 l)]
 have : dec (l ++ m) = decF (dec l) m := ze7 _ _ _
 rw [this, show dec l = ((dec l).1, (dec l).2) from rfl, z2o]
theorem zz3 (s : List Int × List Int) (b : Int) : ∃ p, s.2 ++ [b] = p ++ (stepD s b).2 := by
 obtain ⟨out, K⟩ := s
 have hf : ∀ o, ∃ p, K ++ [b] = p ++ (zba o b).2 := by
  intro o
  unfold zba
  split
  ·exact ⟨K ++ [b], by simp⟩
  ·split
   ·exact ⟨K, rfl⟩
   ·exact ⟨K ++ [b], by simp⟩
 unfold stepD
 dsimp only
 split
 ·exact hf _
 ·split
  ·split
   ·exact ⟨K ++ [b], by simp⟩
   ·exact ⟨[], by simp⟩
  ·exact hf _
theorem zy5 (l : List Int) : ∀ (s : List Int × List Int), ∃ p, s.2 ++ l = p ++ (decF s l).2 := by
 induction l with
 | nil => exact fun s => ⟨[], by simp [decF]⟩
 | cons b l ih =>
  intro s
  obtain ⟨p, hp⟩ := zz3 s b
  obtain ⟨q, hq⟩ := ih (stepD s b)
  refine ⟨p ++ q, ?_⟩
  show s.2 ++ b :: l = p ++ q ++ (decF (stepD s b) l).2
  rw [List.append_assoc, ← hq, ← List.append_assoc, ← hp]
  simp
theorem zqh (l : List Int) : ∃ p, l = p ++ (dec l).2 := by
 obtain ⟨p, hp⟩ := zy5 l ([], [])
 exact ⟨p, by unfold dec; simpa using hp⟩
def fin (l : List Int) : List Int := (dec l).1 ++ (if (dec l).2 = [] then [] else [65533])
theorem zwx (o : List Int) (b : Int) : (zba o b).1.length + (zba o b).2.length ≤ o.length + 1 := by
 unfold zba
 split
 ·simp
 ·split <;> simp
theorem step_len (s : List Int × List Int) (b : Int) (h : Good s.2) : (stepD s b).1.length + (stepD s b).2.length ≤ s.1.length + s.2.length + 1 := by
 obtain ⟨o, K⟩ := s
 unfold stepD
 dsimp only
 split
 ·rename_i hk; have := zwx o b; simp only [hk, List.length_nil]; omega
 ·rename_i hk
  have hp : 0 < K.length := by cases K with | nil => exact absurd rfl hk | cons a l => simp
  split
  ·split <;> (simp; try omega)
  ·have := zwx (o ++ [65533]) b; simp at this; omega
theorem decF_len (l : List Int) : ∀ s : List Int × List Int, Good s.2 → (decF s l).1.length + (decF s l).2.length ≤ s.1.length + s.2.length + l.length := by
 induction l with
 | nil => exact fun s _ => by simp [decF]
 | cons b l ih =>
  intro s h
  have h1 := ih (stepD s b) (zek s b h)
  have h2 := step_len s b h
  show (decF (stepD s b) l).1.length + _ ≤ _
  rw [List.length_cons]
  have e : decF s (b :: l) = decF (stepD s b) l := rfl
  rw [e]
  omega
theorem zfq (l : List Int) : (dec l).1.length + (dec l).2.length ≤ l.length := by unfold dec; simpa using decF_len l ([], []) trivial
end Go.Proofs.YtlhagkbhojmjpaaGreatDoor
namespace Go.Proofs.YtlhagkbhojmjpaaGreatDoor
open Go.Lib (encodeRuneZ encodeRune decodeL decodeN validD)
def isCh (n : Int) : Prop := 0 ≤ n ∧ n ≤ 1114111 ∧ ¬ (55296 ≤ n ∧ n ≤ 57343)
instance (n : Int) : Decidable (isCh n) := by unfold isCh; infer_instance
def chZ (n : Int) : Int := if isCh n then n else 65533
def encZ (l : List Int) : List Int := l.flatMap encodeRuneZ
def Chars (l : List Int) : Prop := ∀ n ∈ l, isCh n
theorem chZ_ch (n : Int) : isCh (chZ n) := by
 unfold chZ
 split
 ·assumption
 ·decide
theorem zu0 {n : Int} (h : isCh n) : chZ n = n := by unfold chZ; rw [if_pos h]
theorem zps (l : List Int) : Chars (l.map chZ) := fun n hn => by
 obtain ⟨m, _, rfl⟩ := List.mem_map.1 hn
 exact chZ_ch m
theorem zdt (n : Int) (l : List Int) : encZ (n :: l) = encodeRuneZ n ++ encZ l := rfl
theorem zbh (l m : List Int) : encZ (l ++ m) = encZ l ++ encZ m := by simp [encZ]
theorem z2f (n : Int) : encZ [n] = encodeRuneZ n := by simp [encZ]
theorem qal (n : Int) : encodeRuneZ (chZ n) = encodeRuneZ n := by
 unfold chZ
 by_cases h : isCh n
 ·rw [if_pos h]
 ·rw [if_neg h]
  unfold isCh at h
  have e : encodeRuneZ 65533 = [239, 191, 189] := by decide
  rw [e]
  unfold encodeRuneZ
  rw [if_neg (by omega), if_neg (by omega), if_neg (by omega), if_neg (by omega)]
theorem zta (l : List Int) : encZ (l.map chZ) = encZ l := by
 induction l with
 | nil => rfl
 | cons n l ih => rw [List.map_cons, zdt, zdt, ih, qal]
theorem zov {n : Int} (h : isCh n) : (n < 128 ∧ encodeRuneZ n = [n]) ∨ (128 ≤ n ∧ n < 2048 ∧ encodeRuneZ n = [192 + n / 64, 128 + n % 64]) ∨
  (2048 ≤ n ∧ n < 65536 ∧ encodeRuneZ n = [224 + n / 4096, 128 + n / 64 % 64, 128 + n % 64]) ∨ (65536 ≤ n ∧ encodeRuneZ n = [240 + n / 262144, 128 + n / 4096 % 64, 128 + n / 64 % 64, 128 + n % 64]) := by
 unfold isCh at h
 unfold encodeRuneZ
 by_cases h1 : n < 128
 ·left; exact ⟨h1, by rw [if_pos (by omega)]⟩
 ·by_cases h2 : n < 2048
  ·right; left; exact ⟨by omega, h2, by rw [if_neg (by omega), if_pos (by omega)]⟩
  ·by_cases h3 : n < 65536
   ·right; right; left; exact ⟨by omega, h3, by rw [if_neg (by omega), if_neg (by omega), if_pos (by omega)]⟩
   ·right; right; right; exact ⟨by omega, by rw [if_neg (by omega), if_neg (by omega), if_neg (by omega), if_pos (by omega)]⟩
theorem zzb (n : Int) : 1 ≤ (encodeRuneZ n).length ∧ (encodeRuneZ n).length ≤ 4 := by
 unfold encodeRuneZ
 split
 ·simp
 ·split
  ·simp
  ·split
   ·simp
   ·split <;> simp
theorem zcp (l : List Int) : l.length ≤ (encZ l).length ∧ (encZ l).length ≤ 4 * l.length := by
 induction l with
 | nil => simp [encZ]
 | cons n l ih => have := zzb n; rw [zdt, List.length_append, List.length_cons]; omega
theorem z1m {n b : Int} (h : b ∈ encodeRuneZ n) : 0 ≤ b ∧ b ≤ 255 := by
 rw [← qal] at h
 have hc := chZ_ch n
 generalize chZ n = m at *
 have hc' := hc
 unfold isCh at hc'
 rcases zov hc with ⟨_, e⟩ | ⟨_, _, e⟩ | ⟨_, _, e⟩ | ⟨_, e⟩ <;> rw [e] at h <;> simp only [List.mem_cons, List.not_mem_nil, or_false] at h <;> omega
theorem zk3 {l : List Int} {b : Int} (h : b ∈ encZ l) : 0 ≤ b ∧ b ≤ 255 := by
 obtain ⟨n, _, h⟩ := List.mem_flatMap.1 h
 exact z1m h
theorem dec_enc1 {n : Int} (h : isCh n) : dec (encodeRuneZ n) = ([n], []) := by
 have h' := h
 unfold isCh at h'
 rcases zov h with ⟨h1, e⟩ | ⟨h1, h2, e⟩ | ⟨h1, h2, e⟩ | ⟨h1, e⟩ <;> rw [e]
 ·simp [dec, decF, stepD, zba, h1]
 ·have c1 : ¬ 192 + n / 64 < 128 := by omega
  have c2 : lead (192 + n / 64) = 2 := by unfold lead; rw [if_pos (by omega)]
  have c3 : lo1 (192 + n / 64) = 128 := by unfold lo1; rw [if_neg (by omega), if_neg (by omega)]
  have c4 : hi1 (192 + n / 64) = 191 := by unfold hi1; rw [if_neg (by omega), if_neg (by omega)]
  have c5 : 128 ≤ 128 + n % 64 ∧ 128 + n % 64 ≤ 191 := by omega
  have c6 : fst1 (192 + n / 64) = n / 64 := by unfold fst1; rw [if_pos (by omega)]; omega
  simp [dec, decF, stepD, zba, c1, c2, loK, hiK, leadK, c3, c4, c5, valK, c6]
  omega
 ·have c1 : ¬ 224 + n / 4096 < 128 := by omega
  have c2 : lead (224 + n / 4096) = 3 := by unfold lead; rw [if_neg (by omega), if_pos (by omega)]
  have c3 : lo1 (224 + n / 4096) ≤ 128 + n / 64 % 64 ∧ 128 + n / 64 % 64 ≤ hi1 (224 + n / 4096) := by
   unfold lo1 hi1
   constructor
   ·split
    ·omega
    ·split <;> omega
   ·split
    ·omega
    ·split <;> omega
  have c5 : 128 ≤ 128 + n % 64 ∧ 128 + n % 64 ≤ 191 := by omega
  have c6 : fst1 (224 + n / 4096) = n / 4096 := by unfold fst1; rw [if_neg (by omega), if_pos (by omega)]; omega
  simp [dec, decF, stepD, zba, c1, c2, loK, hiK, leadK, c3, c5, valK, c6]
  omega
 ·have c1 : ¬ 240 + n / 262144 < 128 := by omega
  have c2 : lead (240 + n / 262144) = 4 := by unfold lead; rw [if_neg (by omega), if_neg (by omega), if_pos (by omega)]
  have c3 : lo1 (240 + n / 262144) ≤ 128 + n / 4096 % 64 ∧ 128 + n / 4096 % 64 ≤ hi1 (240 + n / 262144) := by
   unfold lo1 hi1
   constructor
   ·split
    ·omega
    ·split <;> omega
   ·split
    ·omega
    ·split <;> omega
  have c4 : 128 ≤ 128 + n / 64 % 64 ∧ 128 + n / 64 % 64 ≤ 191 := by omega
  have c5 : 128 ≤ 128 + n % 64 ∧ 128 + n % 64 ≤ 191 := by omega
  have c6 : fst1 (240 + n / 262144) = n / 262144 := by unfold fst1; rw [if_neg (by omega), if_neg (by omega), if_pos (by omega)]; omega
  simp [dec, decF, stepD, zba, c1, c2, loK, hiK, leadK, c3, c4, c5, valK, c6]
  omega
theorem zy6 {n : Int} (h : isCh n) (m : List Int) : dec (encodeRuneZ n ++ m) = (n :: (dec m).1, (dec m).2) := by
 rw [z7a, dec_enc1 h]; simp
theorem zvq {l : List Int} (h : Chars l) (m : List Int) : dec (encZ l ++ m) = (l ++ (dec m).1, (dec m).2) := by
 induction l with
 | nil => simp [encZ]
 | cons n l ih =>
  rw [zdt, List.append_assoc, zy6 (h n (by simp)), ih fun m hm => h m (by simp [hm])]
  simp
theorem zm9 {l : List Int} (h : Chars l) : dec (encZ l) = (l, []) := by
 have := zvq h []
 rw [List.append_nil] at this
 rw [this]
 simp [dec, decF]
theorem zlc (l : List Int) : dec (encZ l) = (l.map chZ, []) := by rw [← zta, zm9 (zps l)]
def zbl (s : List UInt8) : Prop := ∃ l, Chars l ∧ bs s = encZ l
theorem bs_enc (n : Int) : bs (encodeRune n) = encodeRuneZ n := by
 unfold bs encodeRune
 rw [List.map_map]
 conv => rhs; rw [← List.map_id (encodeRuneZ n)]
 refine List.map_congr_left fun b hb => ?_
 have := z1m hb
 simp only [Function.comp, id]
 rw [show b.toNat.toUInt8 = UInt8.ofNat b.toNat from rfl, UInt8.toNat_ofNat']
 omega
theorem zvc (n b0 b1 b2 b3 : Nat) : isCh ((decodeN n b0 b1 b2 b3).1 : Int) ∨ 128 ≤ b0 ∧ decodeN n b0 b1 b2 b3 = (65533, 1) := by
 rcases Lib.decodeN_shape n b0 b1 b2 b3 with ⟨h, e⟩ | ⟨h, _, _, _, e⟩ | ⟨h, _, _, _, _, h', e⟩ | ⟨h, _, _, _, _, h', _, e⟩ | e
 ·left; rw [e]; unfold isCh; dsimp only; omega
 ·left; rw [e]; unfold isCh; dsimp only; omega
 ·left; rw [e]; unfold isCh; dsimp only; omega
 ·left; rw [e]; unfold isCh; dsimp only; omega
 ·left; rw [e]; decide
theorem z4t (l : List UInt8) : isCh ((decodeL l).1 : Int) := by
 rw [Lib.decodeL_N]
 rcases zvc l.length (l.getD 0 0).toNat (l.getD 1 0).toNat (l.getD 2 0).toNat (l.getD 3 0).toNat with h | ⟨_, h⟩
 ·exact h
 ·rw [h]; decide
theorem zf5 : ∀ (k : Nat) (l : List UInt8), l.length ≤ k → validD l = true → zbl l
 | 0, l, hl, h => by
  have : l = [] := List.eq_nil_of_length_eq_zero (by omega)
  subst this
  exact ⟨[], fun n hn => (by cases hn), rfl⟩
 | k + 1, l, hl, h => by
  by_cases hne : l = []
  ·subst hne; exact ⟨[], fun n hn => (by cases hn), rfl⟩
  ·rw [Lib.validD_step l hne] at h
   split at h
   ·cases h
   ·rename_i hv
    have hw := Lib.decodeL_width l
    obtain ⟨m, hm, e⟩ := zf5 k (l.drop (decodeL l).2) (by rw [List.length_drop]; have := List.length_pos_iff.2 hne; omega) h
    have he := Lib.encode_decode l hne hv
    refine ⟨((decodeL l).1 : Int) :: m, fun n hn => ?_, ?_⟩
    ·rcases List.mem_cons.1 hn with rfl | hn
     ·exact z4t l
     ·exact hm n hn
    ·rw [zdt, ← bs_enc, he, ← e, ← zhy, List.take_append_drop]
theorem znc {n : Int} (h : isCh n) {s : List UInt8} {m : List Int} (hs : bs s = encodeRuneZ n ++ m) : ((decodeL s).1 : Int) = n ∧ (decodeL s).2 = (encodeRuneZ n).length ∧ ¬ ((decodeL s).1 = 65533 ∧ (decodeL s).2 = 1) := by
 have h' := h
 unfold isCh at h'
 have hg : ∀ i, ((s.getD i 0).toNat : Int) = (bs s).getD i 0 := zar s
 have hl : s.length = (encodeRuneZ n ++ m).length := by rw [← hs, zak]
 have g0 := hg 0
 have g1 := hg 1
 have g2 := hg 2
 have g3 := hg 3
 rw [Lib.decodeL_N]
 rw [hs] at g0 g1 g2 g3
 have b0 := (s.getD 0 0).toNat_lt
 generalize (s.getD 0 0).toNat = x0 at *
 generalize (s.getD 1 0).toNat = x1 at *
 generalize (s.getD 2 0).toNat = x2 at *
 generalize (s.getD 3 0).toNat = x3 at *
 generalize s.length = k at *
 clear hg hs
 rcases zov h with ⟨h1, e⟩ | ⟨h1, h2, e⟩ | ⟨h1, h2, e⟩ | ⟨h1, e⟩ <;> rw [e] at g0 g1 g2 g3 hl ⊢ <;> simp only [List.cons_append, List.nil_append, List.getD_cons_zero, List.getD_cons_succ, List.length_cons, List.length_nil, List.length_append] at g0 g1 g2 g3 hl ⊢
 ·unfold decodeN
  rw [if_pos (by omega)]
  dsimp only
  omega
 ·unfold decodeN
  rw [if_neg (by omega), if_pos (by omega), if_pos (by omega)]
  dsimp only
  omega
 ·unfold decodeN
  rw [if_neg (by omega), if_neg (by omega), if_pos (by omega), if_pos (by omega)]
  dsimp only
  omega
 ·unfold decodeN
  rw [if_neg (by omega), if_neg (by omega), if_neg (by omega), if_pos (by omega), if_pos (by omega)]
  dsimp only
  omega
theorem bs_nil_iff {s : List UInt8} : bs s = [] ↔ s = [] := by unfold bs; exact List.map_eq_nil_iff
theorem zv3 : ∀ (l : List Int) (s : List UInt8), Chars l → bs s = encZ l → validD s = true
 | [], s, _, h => by
  rw [bs_nil_iff.1 h]
  rfl
 | n :: l, s, hc, h => by
  rw [zdt] at h
  obtain ⟨h1, h2, h3⟩ := znc (hc n (by simp)) h
  have hne : s ≠ [] := fun e => by
   subst e
   have := zzb n
   have h4 := congrArg List.length h
   simp [bs] at h4
   omega
  rw [Lib.validD_step s hne, if_neg h3]
  refine zv3 l _ (fun m hm => hc m (by simp [hm])) ?_
  rw [z25, h, h2, List.drop_left]
theorem zbp (s : List UInt8) : validD s = true ↔ zbl s := ⟨zf5 _ s (Nat.le_refl _), fun ⟨l, h1, h2⟩ => zv3 l s h1 h2⟩
theorem zej {s : List UInt8} (h : zbl s) : Chars (dec (bs s)).1 ∧ (dec (bs s)).2 = [] ∧ encZ (dec (bs s)).1 = bs s ∧ fin (bs s) = (dec (bs s)).1 := by
 obtain ⟨l, h1, h2⟩ := h
 have := zm9 h1
 rw [← h2] at this
 refine ⟨by rw [this]; exact h1, by rw [this], by rw [this]; exact h2.symm, ?_⟩
 unfold fin
 rw [this]
 simp
theorem zlg : ∀ (l : List Int) (s : ByteArray) (k i : Nat) (acc : Array Value), Chars l → bs (s.data.toList.drop i) = encZ l → (encZ l).length ≤ k → i ≤ s.size → (Conv.runesFrom s k i acc).toList = acc.toList ++ l.map (Value.int .i32)
 | [], s, k, i, acc, _, h, hk, hi => by
  have h0 := bs_nil_iff.1 h
  have h1 := congrArg List.length h0
  rw [List.length_drop, List.length_nil] at h1
  have h2 : s.data.toList.length = s.size := Array.length_toList
  have e : ¬ i < s.size := by omega
  cases k with
  | zero => simp [Conv.runesFrom]
  | succ k => simp [Conv.runesFrom, e]
 | n :: l, s, k, i, acc, hc, h, hk, hi => by
  rw [zdt] at h hk
  obtain ⟨h1, h2, _⟩ := znc (hc n (by simp)) h
  have hel := zzb n
  have hlt : i < s.size := by
   have h1 := congrArg List.length h
   have h2 : s.data.toList.length = s.size := Array.length_toList
   rw [zak, List.length_drop, List.length_append] at h1
   omega
  rw [List.length_append] at hk
  cases k with
  | zero => omega
  | succ k =>
   rw [Lib.decodeL_drop] at h1 h2
   simp only [Conv.runesFrom, if_pos hlt]
   have e : Utf8.decode s i = ((Utf8.decode s i).1, (Utf8.decode s i).2) := rfl
   rw [e]
   dsimp only
   have hd : bs (s.data.toList.drop (i + (Utf8.decode s i).2)) = encZ l := by
    rw [← List.drop_drop, z25, h, h2, List.drop_left]
   have hi2 : i + (Utf8.decode s i).2 ≤ s.size := by
    have h1 := congrArg List.length h
    have h2' : s.data.toList.length = s.size := Array.length_toList
    rw [zak, List.length_drop, List.length_append] at h1
    rw [h2]
    omega
   rw [zlg l s k _ _ (fun m hm => hc m (by simp [hm])) hd (by omega) hi2]
   simp only [Array.toList_push, List.map_cons, List.append_assoc, List.cons_append, List.nil_append]
   rw [show Int.ofNat (Utf8.decode s i).1 = n from h1]
theorem zko {s : List UInt8} (h : zbl s) : zgu s = (dec (bs s)).1.map TV.int := by
 obtain ⟨h1, h2, h3, _⟩ := zej h
 unfold zgu
 rw [zlg (dec (bs s)).1 ⟨s.toArray⟩ s.length 0 #[] h1 (by rw [h3]; rfl) (by rw [h3, zak]; exact Nat.le_refl _) (Nat.zero_le _)]
 simp [List.map_map, Function.comp_def]
end Go.Proofs.YtlhagkbhojmjpaaGreatDoor
