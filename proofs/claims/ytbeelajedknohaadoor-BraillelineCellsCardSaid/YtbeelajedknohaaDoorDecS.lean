/- The plain steps of Decode's machine. -/
import Derived.Test.YtbeelajedknohaaDoorDec
namespace Go.Proofs.YtbeelajedknohaaDoor
set_option linter.unusedSimpArgs false
set_option linter.unusedVariables false
set_option linter.unusedSectionVars false

def misB (b : Int) : Int := if 194 ≤ b ∧ b ≤ 223 then 1 else if 224 ≤ b ∧ b ≤ 239 then 2 else if 240 ≤ b ∧ b ≤ 244 then 3 else 0

def bts (s : ByteArray) : List Int := s.data.toList.map fun b => (b.toNat : Int)
theorem bts_length (s : ByteArray) : (bts s).length = s.size := by simp [bts]
theorem bts_take (s : ByteArray) (k : Nat) (h : k < s.size) : (bts s).take (k + 1) = (bts s).take k ++ [(s[k].toNat : Int)] := by
  have hl : k < (bts s).length := by rw [bts_length]; exact h
  rw [List.take_succ_eq_append_getElem hl]
  congr 1
  simp [bts]
  rfl
theorem dec_snoc (l : List Int) (b : Int) (out K : List Int) (h : dec l = (out, K)) : dec (l ++ [b]) = stepD (out, K) b := by
  unfold dec at *
  rw [decF_append, h]
  rfl
theorem valK_snoc (K : List Int) (b : Int) (h : K ≠ []) : valK (K ++ [b]) = valK K * 64 + (b - 128) := by
  cases K with
  | nil => exact absurd rfl h
  | cons a r => simp [valK, List.foldl_append]
theorem leadK_snoc (K : List Int) (b : Int) (h : K ≠ []) : leadK (K ++ [b]) = leadK K := by
  cases K with
  | nil => exact absurd rfl h
  | cons a r => rfl
theorem fst1_bd (b : Int) : 0 ≤ fst1 b ∧ fst1 b ≤ 31 := by unfold fst1; (repeat' split) <;> omega
theorem lo1_bd (b : Int) : 128 ≤ lo1 b ∧ lo1 b ≤ 160 := by unfold lo1; (repeat' split) <;> omega
theorem hi1_bd (b : Int) : 143 ≤ hi1 b ∧ hi1 b ≤ 191 := by unfold hi1; (repeat' split) <;> omega
theorem loK_bd (K : List Int) : 128 ≤ loK K ∧ loK K ≤ 160 := by
  match K with
  | [] => exact ⟨by decide, by decide⟩
  | [a] => exact lo1_bd a
  | a :: b :: r => exact ⟨show (128 : Int) ≤ 128 by decide, show (128 : Int) ≤ 160 by decide⟩
theorem hiK_bd (K : List Int) : 143 ≤ hiK K ∧ hiK K ≤ 191 := by
  match K with
  | [] => exact ⟨by decide, by decide⟩
  | [a] => exact hi1_bd a
  | a :: b :: r => exact ⟨show (143 : Int) ≤ 191 by decide, show (191 : Int) ≤ 191 by decide⟩

/-- The variable s and the start of the sequence, as the machine's kept bytes say. -/
structure SOk (K : List Int) (k s0 : Nat) (vv mm ll hh : Int) : Prop where
  good : Good K
  empty : K = [] → mm = 0
  full : K ≠ [] → vv = valK K ∧ mm = (leadK K : Int) - K.length ∧ ll = loK K ∧ hh = hiK K ∧ s0 + K.length = k ∧ 0 < mm
  v0 : 0 ≤ vv
  v1 : vv ≤ 32767 ∨ mm = 0
  m0 : 0 ≤ mm
  m1 : mm ≤ 3
  l0 : 0 ≤ ll
  l1 : ll ≤ 255
  g0 : 0 ≤ hh
  g1 : hh ≤ 255
  s1 : s0 ≤ k

theorem good_val (K : List Int) (h : Good K) : 0 ≤ valK K ∧ valK K ≤ 32767 := by
  match K, h with
  | [], _ => simp [valK]
  | [a], _ => have := fst1_bd a; simp [valK]; omega
  | [a, b], h =>
    have := fst1_bd a; have := lo1_bd a; have := hi1_bd a
    simp only [Good] at h
    simp [valK]; omega
  | [a, b, c], h =>
    have hl := lead_cases a
    have := lo1_bd a; have := hi1_bd a
    simp only [Good] at h
    have hf : fst1 a ≤ 4 := by
      unfold fst1
      (repeat' split) <;> omega
    have := fst1_bd a
    simp [valK]; omega
theorem good_lead (K : List Int) (h : Good K) (hn : K ≠ []) : K.length < leadK K ∧ leadK K ≤ 4 := by
  match K, h, hn with
  | [a], h, _ => have := lead_cases a; simp only [Good, leadK, List.length_cons, List.length_nil] at *; omega
  | [a, b], h, _ => have := lead_cases a; simp only [Good, leadK, List.length_cons, List.length_nil] at *; omega
  | [a, b, c], h, _ => have := lead_cases a; simp only [Good, leadK, List.length_cons, List.length_nil] at *; omega

theorem SOk.start : SOk [] 0 0 0 0 0 0 := ⟨trivial, fun _ => rfl, fun h => absurd rfl h, by omega, .inr rfl, by omega, by omega, by omega, by omega, by omega, by omega, by omega⟩
/-- A sequence is done. -/
theorem SOk.done {K : List Int} {k s0 : Nat} {vv mm ll hh b v' : Int} (h : SOk K k s0 vv mm ll hh) (hm : 0 < mm) (h1 : ll ≤ b) (h2 : b ≤ hh) (hd : mm = 1) (hv : v' = vv * 64 + (b - 128)) :
    (∀ out, stepD (out, K) b = (out ++ [v'], [])) ∧ SOk [] (k + 1) s0 v' 0 128 191 := by
  have hK : K ≠ [] := fun e => by have := h.empty e; omega
  obtain ⟨e1, e2, e3, e4, e5, _⟩ := h.full hK
  have hr : loK K ≤ b ∧ b ≤ hiK K := by rw [← e3, ← e4]; exact ⟨h1, h2⟩
  have hb := loK_bd K
  have hg := good_lead K h.good hK
  refine ⟨fun out => ?_, trivial, fun _ => rfl, fun h => absurd rfl h, ?_, .inr rfl, by omega, by omega, by omega, by omega, by omega, by omega, by have := h.s1; omega⟩
  · unfold stepD
    dsimp only
    rw [if_neg hK, if_pos hr, if_pos (by omega), valK_snoc _ _ hK, ← e1, hv]
  · have := h.v0; omega
/-- A sequence goes on. -/
theorem SOk.more {K : List Int} {k s0 : Nat} {vv mm ll hh b v' : Int} (h : SOk K k s0 vv mm ll hh) (hm : 0 < mm) (h1 : ll ≤ b) (h2 : b ≤ hh) (hd : mm ≠ 1) (hv : v' = vv * 64 + (b - 128)) :
    (∀ out, stepD (out, K) b = (out, K ++ [b])) ∧ SOk (K ++ [b]) (k + 1) s0 v' (mm - 1) 128 191 := by
  have hK : K ≠ [] := fun e => by have := h.empty e; omega
  obtain ⟨e1, e2, e3, e4, e5, _⟩ := h.full hK
  have hr : loK K ≤ b ∧ b ≤ hiK K := by rw [← e3, ← e4]; exact ⟨h1, h2⟩
  have hb := loK_bd K
  have hg := good_lead K h.good hK
  have hs : stepD ([], K) b = ([], K ++ [b]) := by
    unfold stepD
    dsimp only
    rw [if_neg hK, if_pos hr, if_neg (by omega)]
  have hgood : Good (K ++ [b]) := by have := good_step ([], K) b h.good; rw [hs] at this; exact this
  have hval := good_val _ hgood
  have hlen : (K ++ [b]).length = K.length + 1 := by simp
  have h2b : 2 ≤ (K ++ [b]).length := by
    cases K with
    | nil => exact absurd rfl hK
    | cons a r => simp
  have hlo : loK (K ++ [b]) = 128 := by
    match K, hK with
    | [a], _ => rfl
    | a :: c :: r, _ => rfl
  have hhi : hiK (K ++ [b]) = 191 := by
    match K, hK with
    | [a], _ => rfl
    | a :: c :: r, _ => rfl
  have hvv : v' = valK (K ++ [b]) := by rw [valK_snoc _ _ hK, ← e1, hv]
  refine ⟨fun out => ?_, hgood, fun e => by simp at e, fun _ => ⟨hvv, by rw [leadK_snoc _ _ hK, hlen]; omega, hlo.symm, hhi.symm, by rw [hlen]; omega, by omega⟩, by omega, .inl (by omega), by omega, by have := h.m1; omega, by omega, by omega, by omega, by omega, by have := h.s1; omega⟩
  unfold stepD
  dsimp only
  rw [if_neg hK, if_pos hr, if_neg (by omega)]
theorem step_out_of_range (out K : List Int) (b : Int) (hK : K ≠ []) (h : ¬ (loK K ≤ b ∧ b ≤ hiK K)) : stepD (out, K) b = stepD (out ++ [65533], []) b := by
  unfold stepD
  dsimp only
  rw [if_neg hK, if_neg h, if_pos rfl]
/-- What freshD says, by the first byte. -/
theorem misB_pos (b : Int) : (misB b = 0 ∧ lead b = 0) ∨ (0 < misB b ∧ misB b ≤ 3 ∧ 0 < lead b ∧ misB b = (lead b : Int) - 1) := by
  unfold misB lead
  (repeat' split) <;> simp
theorem SOk.begun (k : Nat) (b : Int) (hl : 0 < lead b) : SOk [b] (k + 1) k (fst1 b) (misB b) (lo1 b) (hi1 b) := by
  have h1 := fst1_bd b
  have h2 := lo1_bd b
  have h3 := hi1_bd b
  have h4 := misB_pos b
  refine ⟨hl, fun e => by simp at e, fun _ => ⟨rfl, by simp only [leadK, List.length_cons, List.length_nil]; omega, rfl, rfl, by simp, by omega⟩, h1.1, .inl (by omega), by omega, by omega, by omega, by omega, by omega, by omega, by omega⟩
theorem SOk.none_ (k : Nat) (b : Int) (hl : misB b = 0) : SOk [] (k + 1) k (fst1 b) (misB b) (lo1 b) (hi1 b) := by
  have h1 := fst1_bd b
  have h2 := lo1_bd b
  have h3 := hi1_bd b
  exact ⟨trivial, fun _ => hl, fun h => absurd rfl h, h1.1, .inr hl, by omega, by omega, by omega, by omega, by omega, by omega, by omega⟩
end Go.Proofs.YtbeelajedknohaaDoor
