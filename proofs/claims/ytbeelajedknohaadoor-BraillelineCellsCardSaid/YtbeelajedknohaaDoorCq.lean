/- The contracts of Cells, of Same, of awake; the law of the capital letters. -/
import Derived.Test.YtbeelajedknohaaDoorCp
namespace Go.Proofs.YtbeelajedknohaaDoor
set_option linter.unusedSimpArgs false
set_option linter.unusedVariables false
set_option linter.unusedSectionVars false

/-! ### Characters are in range -/
def InR (l : List Int) : Prop := ∀ r ∈ l, 0 ≤ r ∧ r ≤ 1114111
theorem valK_full {K : List Int} {b : Int} (hg : Good K) (hK : K ≠ []) (hr : loK K ≤ b ∧ b ≤ hiK K) (hl : K.length + 1 = leadK K) : 0 ≤ valK (K ++ [b]) ∧ valK (K ++ [b]) ≤ 1114111 := by
  match K, hg, hK with
  | [a], h, _ =>
    have := lead_cases a
    simp only [Good, loK, hiK, leadK, List.length_cons, List.length_nil] at h hr hl
    have := lo1_bd a; have := hi1_bd a
    simp only [valK, List.cons_append, List.nil_append, List.foldl_cons, List.foldl_nil]
    unfold fst1
    (repeat' split) <;> omega
  | [a, c], h, _ =>
    have := lead_cases a
    simp only [Good, loK, hiK, leadK, List.length_cons, List.length_nil] at h hr hl
    have := lo1_bd a; have := hi1_bd a
    simp only [valK, List.cons_append, List.nil_append, List.foldl_cons, List.foldl_nil]
    unfold fst1
    (repeat' split) <;> omega
  | [a, c, d], h, _ =>
    have := lead_cases a
    simp only [Good, loK, hiK, leadK, List.length_cons, List.length_nil] at h hr hl
    have h244 : a = 244 → c ≤ 143 := fun e => by subst e; have : hi1 244 = 143 := by decide
                                                 omega
    have := lo1_bd a; have := hi1_bd a
    simp only [valK, List.cons_append, List.nil_append, List.foldl_cons, List.foldl_nil]
    unfold fst1
    (repeat' split) <;> omega
theorem inR_app {l m : List Int} (h : InR l) (k : InR m) : InR (l ++ m) := fun r hr => by
  rcases List.mem_append.1 hr with hr | hr
  · exact h r hr
  · exact k r hr
theorem inR_one {r : Int} (h : 0 ≤ r) (k : r ≤ 1114111) : InR [r] := fun x hx => by simp only [List.mem_singleton] at hx; subst hx; exact ⟨h, k⟩
theorem inR_fresh {o : List Int} {b : Int} (h : InR o) (hb : 0 ≤ b ∧ b ≤ 255) : InR (freshD o b).1 := by
  unfold freshD
  split
  · exact inR_app h (inR_one (by omega) (by omega))
  · split
    · exact h
    · exact inR_app h (inR_one (by omega) (by omega))
theorem inR_step {s : List Int × List Int} {b : Int} (h : InR s.1) (hg : Good s.2) (hb : 0 ≤ b ∧ b ≤ 255) : InR (stepD s b).1 := by
  obtain ⟨o, K⟩ := s
  unfold stepD
  dsimp only at h hg ⊢
  split
  · exact inR_fresh h hb
  · rename_i hK
    split
    · rename_i hr
      split
      · rename_i hl
        have := valK_full hg hK hr hl
        exact inR_app h (inR_one this.1 this.2)
      · exact h
    · exact inR_fresh (inR_app h (inR_one (by omega) (by omega))) hb
theorem inR_decF : ∀ (l : List Int) (s : List Int × List Int), InR s.1 → Good s.2 → Byte l → InR (decF s l).1
  | [], s, h, _, _ => h
  | b :: l, s, h, hg, hb => inR_decF l (stepD s b) (inR_step h hg (hb b (by simp))) (good_step s b hg) (fun x hx => hb x (by simp [hx]))
theorem inR_fin {l : List Int} (h : Byte l) : InR (Go.Proofs.YtbeelajedknohaaDoor.fin l) := by
  unfold Go.Proofs.YtbeelajedknohaaDoor.fin
  refine inR_app (inR_decF l ([], []) (fun r hr => by cases hr) trivial h) ?_
  split
  · exact fun r hr => by cases hr
  · exact inR_one (by omega) (by omega)
theorem fin_split (l : List Int) : Go.Proofs.YtbeelajedknohaaDoor.fin l = (dec l).1 ++ Go.Proofs.YtbeelajedknohaaDoor.fin (dec l).2 := by
  unfold Go.Proofs.YtbeelajedknohaaDoor.fin
  rw [dec_kept _ (good_dec l)]
  rfl
theorem fin_len (l : List Int) : (Go.Proofs.YtbeelajedknohaaDoor.fin l).length ≤ l.length := by
  have := dec_len l
  unfold Go.Proofs.YtbeelajedknohaaDoor.fin
  rw [List.length_append]
  split
  · simp; omega
  · rename_i h
    have : (dec l).2.length ≠ 0 := by simpa using h
    simp; omega

/-! ### The cells of a character -/
def hexZ (d : Int) : Int := if d < 10 then 48 + d else 87 + d
def escZ (r : Int) : List Int := [255, cellZ (hexZ (r / 1048576 % 16)), cellZ (hexZ (r / 65536 % 16)), cellZ (hexZ (r / 4096 % 16)), cellZ (hexZ (r / 256 % 16)), cellZ (hexZ (r / 16 % 16)), cellZ (hexZ (r % 16))]
def oneZ (r : Int) : List Int := if hasZ r then [cellZ r] else escZ r
def cellsZ (l : List Int) : List Int := l.flatMap oneZ
end Go.Proofs.YtbeelajedknohaaDoor
