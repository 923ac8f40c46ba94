/- The plain law of UTF-8 decoding: a machine over bytes, no program in sight. -/
namespace Go.Proofs.YtbeelajedknohaaDoor
set_option linter.unusedSimpArgs false
set_option linter.unusedVariables false

/-- How many bytes a sequence has that begins with b; 0: none begins so. -/
def lead (b : Int) : Nat := if 194 ≤ b ∧ b ≤ 223 then 2 else if 224 ≤ b ∧ b ≤ 239 then 3 else if 240 ≤ b ∧ b ≤ 244 then 4 else 0
def lo1 (b : Int) : Int := if b = 224 then 160 else if b = 240 then 144 else 128
def hi1 (b : Int) : Int := if b = 237 then 159 else if b = 244 then 143 else 191
def fst1 (b : Int) : Int := if 194 ≤ b ∧ b ≤ 223 then b - 192 else if 224 ≤ b ∧ b ≤ 239 then b - 224 else if 240 ≤ b ∧ b ≤ 244 then b - 240 else 0
def loK : List Int → Int
  | [b] => lo1 b
  | _ => 128
def hiK : List Int → Int
  | [b] => hi1 b
  | _ => 191
def valK : List Int → Int
  | [] => 0
  | b :: r => r.foldl (fun n c => n * 64 + (c - 128)) (fst1 b)
def leadK : List Int → Nat
  | [] => 0
  | b :: _ => lead b
def freshD (out : List Int) (b : Int) : List Int × List Int := if b < 128 then (out ++ [b], []) else if 0 < lead b then (out, [b]) else (out ++ [65533], [])
def stepD (s : List Int × List Int) (b : Int) : List Int × List Int :=
  if s.2 = [] then freshD s.1 b
  else if loK s.2 ≤ b ∧ b ≤ hiK s.2 then (if s.2.length + 1 = leadK s.2 then (s.1 ++ [valK (s.2 ++ [b])], []) else (s.1, s.2 ++ [b]))
  else freshD (s.1 ++ [65533]) b
def decF (s : List Int × List Int) (l : List Int) : List Int × List Int := l.foldl stepD s
def dec (l : List Int) : List Int × List Int := decF ([], []) l

/-- What the kept bytes are. -/
def Good : List Int → Prop
  | [] => True
  | [a] => 0 < lead a
  | [a, b] => 2 < lead a ∧ lo1 a ≤ b ∧ b ≤ hi1 a
  | [a, b, c] => 3 < lead a ∧ lo1 a ≤ b ∧ b ≤ hi1 a ∧ 128 ≤ c ∧ c ≤ 191
  | _ => False

theorem lead_le (b : Int) : lead b ≤ 4 := by unfold lead; split <;> (try split) <;> (try split) <;> omega
theorem lead_cases (b : Int) : (lead b = 2 ∧ 194 ≤ b ∧ b ≤ 223) ∨ (lead b = 3 ∧ 224 ≤ b ∧ b ≤ 239) ∨ (lead b = 4 ∧ 240 ≤ b ∧ b ≤ 244) ∨ (lead b = 0 ∧ ¬ (194 ≤ b ∧ b ≤ 244)) := by
  unfold lead
  split
  · omega
  · split
    · omega
    · split <;> omega

theorem good_freshD (out : List Int) (b : Int) : Good (freshD out b).2 := by
  unfold freshD
  split
  · trivial
  · split
    · rename_i h; exact h
    · trivial

theorem good_step (s : List Int × List Int) (b : Int) (h : Good s.2) : Good (stepD s b).2 := by
  obtain ⟨out, K⟩ := s
  unfold stepD
  dsimp only
  split
  · exact good_freshD _ _
  · rename_i hne
    split
    · rename_i hr
      split
      · trivial
      · rename_i hl
        match K, h, hne, hr, hl with
        | [a], h, _, hr, hl =>
          have := lead_cases a
          simp only [Good, loK, hiK, leadK, List.length_cons, List.length_nil] at h hr hl
          simp only [List.cons_append, List.nil_append, Good]
          omega
        | [a, c], h, _, hr, hl =>
          have := lead_cases a
          simp only [Good, loK, hiK, leadK, List.length_cons, List.length_nil] at h hr hl
          simp only [List.cons_append, List.nil_append, Good]
          omega
        | [a, c, d], h, _, hr, hl =>
          have := lead_cases a
          simp only [Good, loK, hiK, leadK, List.length_cons, List.length_nil] at h hr hl
          omega
    · exact good_freshD _ _

theorem good_decF (l : List Int) : ∀ (s : List Int × List Int), Good s.2 → Good (decF s l).2 := by
  induction l with
  | nil => exact fun s h => h
  | cons b l ih => exact fun s h => ih _ (good_step s b h)
theorem good_dec (l : List Int) : Good (dec l).2 := good_decF l _ trivial

theorem decF_append (s : List Int × List Int) (l m : List Int) : decF s (l ++ m) = decF (decF s l) m := by simp [decF, List.foldl_append]

theorem fresh_out (out : List Int) (b : Int) : freshD out b = (out ++ (freshD [] b).1, (freshD [] b).2) := by
  unfold freshD
  split
  · simp
  · split <;> simp
theorem step_out (out K : List Int) (b : Int) : stepD (out, K) b = (out ++ (stepD ([], K) b).1, (stepD ([], K) b).2) := by
  unfold stepD
  dsimp only
  split
  · exact fresh_out _ _
  · split
    · split <;> simp
    · rw [fresh_out, fresh_out ([] ++ [65533])]; simp
theorem decF_out (l : List Int) : ∀ (out K : List Int), decF (out, K) l = (out ++ (decF ([], K) l).1, (decF ([], K) l).2) := by
  induction l with
  | nil => intro out K; simp [decF]
  | cons b l ih =>
    intro out K
    show decF (stepD (out, K) b) l = _
    rw [step_out, ih]
    have e : decF ([], K) (b :: l) = decF (stepD ([], K) b) l := rfl
    rw [e]
    rw [show stepD ([], K) b = ((stepD ([], K) b).1, (stepD ([], K) b).2) from rfl, ih (stepD ([], K) b).1]
    simp

/-- Kept bytes, decoded anew, are kept. -/
theorem dec_kept (K : List Int) (h : Good K) : dec K = ([], K) := by
  match K, h with
  | [], _ => rfl
  | [a], h =>
    have := lead_cases a
    simp only [Good] at h
    have e : ¬ a < 128 := by omega
    simp [dec, decF, stepD, freshD, e, h]
  | [a, b], h =>
    have := lead_cases a
    simp only [Good] at h
    have e : ¬ a < 128 := by omega
    have e2 : 0 < lead a := by omega
    have e3 : ¬ 2 = lead a := by omega
    simp [dec, decF, stepD, freshD, e, e2, loK, hiK, leadK, h.2.1, h.2.2, e3]
  | [a, b, c], h =>
    have := lead_cases a
    simp only [Good] at h
    have e : ¬ a < 128 := by omega
    have e2 : 0 < lead a := by omega
    have e3 : ¬ 2 = lead a := by omega
    have e4 : ¬ 3 = lead a := by omega
    simp [dec, decF, stepD, freshD, e, e2, loK, hiK, leadK, h.2.1, h.2.2.1, h.2.2.2.1, h.2.2.2.2, e3, e4]

/-- Decoding what was kept and then the rest is going on. -/
theorem dec_kept_append (K l : List Int) (h : Good K) : dec (K ++ l) = decF ([], K) l := by
  unfold dec
  rw [decF_append]
  have := dec_kept K h
  unfold dec at this
  rw [this]

/-- A stream in two parts. -/
theorem dec_split (l m : List Int) : dec (l ++ m) = ((dec l).1 ++ (dec ((dec l).2 ++ m)).1, (dec ((dec l).2 ++ m)).2) := by
  rw [dec_kept_append _ _ (good_dec l)]
  have : dec (l ++ m) = decF (dec l) m := decF_append _ _ _
  rw [this, show dec l = ((dec l).1, (dec l).2) from rfl, decF_out]

theorem good_length (K : List Int) (h : Good K) : K.length ≤ 3 := by
  match K, h with
  | [], _ => simp
  | [a], _ => simp
  | [a, b], _ => simp
  | [a, b, c], _ => simp

/-- The kept bytes are the stream's last ones. -/
theorem step_suffix (s : List Int × List Int) (b : Int) : ∃ p, s.2 ++ [b] = p ++ (stepD s b).2 := by
  obtain ⟨out, K⟩ := s
  have hf : ∀ o, ∃ p, K ++ [b] = p ++ (freshD o b).2 := by
    intro o
    unfold freshD
    split
    · exact ⟨K ++ [b], by simp⟩
    · split
      · exact ⟨K, rfl⟩
      · exact ⟨K ++ [b], by simp⟩
  unfold stepD
  dsimp only
  split
  · exact hf _
  · split
    · split
      · exact ⟨K ++ [b], by simp⟩
      · exact ⟨[], by simp⟩
    · exact hf _
theorem decF_suffix (l : List Int) : ∀ (s : List Int × List Int), ∃ p, s.2 ++ l = p ++ (decF s l).2 := by
  induction l with
  | nil => exact fun s => ⟨[], by simp [decF]⟩
  | cons b l ih =>
    intro s
    obtain ⟨p, hp⟩ := step_suffix s b
    obtain ⟨q, hq⟩ := ih (stepD s b)
    refine ⟨p ++ q, ?_⟩
    show s.2 ++ b :: l = p ++ q ++ (decF (stepD s b) l).2
    rw [List.append_assoc, ← hq, ← List.append_assoc, ← hp]
    simp
theorem dec_suffix (l : List Int) : ∃ p, l = p ++ (dec l).2 := by
  obtain ⟨p, hp⟩ := decF_suffix l ([], [])
  exact ⟨p, by unfold dec; simpa using hp⟩

/-- What Finish returns. -/
def fin (l : List Int) : List Int := (dec l).1 ++ (if (dec l).2 = [] then [] else [65533])

theorem fresh_len (o : List Int) (b : Int) : (freshD o b).1.length + (freshD o b).2.length ≤ o.length + 1 := by
  unfold freshD
  split
  · simp
  · split <;> simp
theorem step_len (s : List Int × List Int) (b : Int) (h : Good s.2) : (stepD s b).1.length + (stepD s b).2.length ≤ s.1.length + s.2.length + 1 := by
  obtain ⟨o, K⟩ := s
  unfold stepD
  dsimp only
  split
  · rename_i hk; have := fresh_len o b; simp only [hk, List.length_nil]; omega
  · rename_i hk
    have hp : 0 < K.length := by cases K with | nil => exact absurd rfl hk | cons a l => simp
    split
    · split <;> (simp; try omega)
    · have := fresh_len (o ++ [65533]) b; simp at this; omega
theorem decF_len (l : List Int) : ∀ s : List Int × List Int, Good s.2 → (decF s l).1.length + (decF s l).2.length ≤ s.1.length + s.2.length + l.length := by
  induction l with
  | nil => exact fun s _ => by simp [decF]
  | cons b l ih =>
    intro s h
    have h1 := ih (stepD s b) (good_step s b h)
    have h2 := step_len s b h
    show (decF (stepD s b) l).1.length + _ ≤ _
    rw [List.length_cons]
    have e : decF s (b :: l) = decF (stepD s b) l := rfl
    rw [e]
    omega
theorem dec_len (l : List Int) : (dec l).1.length + (dec l).2.length ≤ l.length := by unfold dec; simpa using decF_len l ([], []) trivial

/-- An ASCII byte synchronizes. -/
theorem dec_ascii (l m : List Int) (b : Int) (h : b < 128) (h0 : 0 ≤ b) : dec (l ++ b :: m) = (fin l ++ b :: (dec m).1, (dec m).2) := by
  have e : dec (l ++ b :: m) = decF (stepD (dec l) b) m := by unfold dec; rw [decF_append]; rfl
  have hs : stepD (dec l) b = (fin l ++ [b], []) := by
    unfold fin
    have hg := good_dec l
    generalize dec l = s at *
    obtain ⟨o, K⟩ := s
    unfold stepD
    dsimp only at hg ⊢
    split
    · rename_i hk; simp [freshD, h, hk]
    · rename_i hk
      have : ¬ (loK K ≤ b ∧ b ≤ hiK K) := by
        have : 128 ≤ loK K := by
          match K, hk with
          | [a], _ => unfold loK lo1; split <;> (try split) <;> omega
          | a :: c :: r, _ => exact Int.le_refl _
        omega
      rw [if_neg this]
      simp [freshD, h, hk]
  rw [e, hs, decF_out]
  simp [dec]

end Go.Proofs.YtbeelajedknohaaDoor
