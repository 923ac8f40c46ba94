/- The laws of the table and of the bijection. -/
import Derived.Test.YtccpepheooleoaaDoorCg
namespace Go.Proofs.YtccpepheooleoaaDoor
set_option linter.unusedSimpArgs false
set_option linter.unusedVariables false
set_option linter.unusedSectionVars false

def tableP (ts : List TV) : Prop := ∃ r c, ts = [.int r, .int c] ∧ (-2147483648 ≤ r ∧ r ≤ 2147483647) ∧ 0 ≤ c ∧ c ≤ 255
theorem tableP_of {t u : TV} (h : OkA false [.int .i32] t) (k : OkA false [.int .u8] u) : tableP [t, u] := by
  obtain ⟨r, rfl, h1, h2⟩ := h.int
  obtain ⟨c, rfl, h3, h4⟩ := k.int
  exact ⟨r, c, rfl, ⟨h1, h2⟩, h3, h4⟩
theorem lawTable_c (k : Nat) : Contract Tryd.prog (mkEnv globT []) gtab (sn_law51_ComputerbrailleTable k) (trueL tableP).pre (trueL tableP).post := Contract.env (Γ := mkEnv globT [cellL, runeL, cellL, runeL, awakeL]) (contract_law51_ComputerbrailleTable (fun _ => rfl) (fun s hs => by
    simp only [cx_law51_ComputerbrailleTable, List.mem_cons, List.not_mem_nil, or_false] at hs
    rcases hs with rfl | rfl | rfl | rfl | rfl
    · exact Contract.inEnv rfl (cell_c 0) rfl
    · exact Contract.inEnv rfl (rune_c 1) rfl
    · exact Contract.inEnv rfl (refCell_c 2) rfl
    · exact Contract.inEnv rfl (refRune_c 3) rfl
    · exact Contract.inEnv rfl (awake_c 4) rfl) k (by
  rintro ts hl ⟨r, c, rfl, ⟨h0, h1⟩, h2, h3⟩
  have fin : (trueL tableP).post [.int r, .int c] (.bool true) := rfl
  generalize (trueL tableP).post [.int r, .int c] = R at fin ⊢
  unfold tr_law51_ComputerbrailleTable
  simp only [Tree.den, E.den, P1.den, P2.den, P3.den, List.map_cons, List.map_nil, List.cons_append, List.nil_append, List.getD_cons_zero, List.getD_cons_succ, List.getElem?_cons_zero, List.getElem?_cons_succ, asInt_int, asBool_bool, asStr_str, asList_list, cells_agg, TV.cell, pre_zero, pre_succ, post_zero, post_succ, decide_eq_true_eq, decide_eq_false_iff_not, beq_iff_eq, beq_eq_false_iff_ne, Bool.not_eq_true', Bool.not_eq_false', ne_eq, List.length_cons, List.length_nil, forall_eq, Bool.false_eq_true, Bool.true_eq_false, Int.reduceToNat, Option.some.injEq, exists_eq_left', cell_all, rune_all, awake_all, pairT, awake_pre, rune_pre]
  refine ⟨cell_pre h0 h1, cell_pre h0 h1, ?_⟩
  simp only [true_implies, not_true_eq_false, false_implies, and_true, true_and, fin])) rfl

theorem cell_facts {a : Int} (h : 32 ≤ a) (k : a ≤ 126) : cellZ a ≠ 255 ∧ runeZ (cellZ a) = a := by
  have key : ∀ m : Fin 95, cellZ (32 + (m.val : Int)) ≠ 255 ∧ runeZ (cellZ (32 + (m.val : Int))) = 32 + (m.val : Int) := by decide +kernel
  obtain ⟨m, hm⟩ := Int.eq_ofNat_of_zero_le (show 0 ≤ a - 32 by omega)
  have hlt : m < 95 := by omega
  have h2 := key ⟨m, hlt⟩
  dsimp only at h2
  rw [show 32 + (m : Int) = a by omega] at h2
  exact h2
theorem rune_facts {c : Int} (h : 0 ≤ c) (k : c ≤ 255) : runeZ c = 65533 ∨ (32 ≤ runeZ c ∧ runeZ c ≤ 126 ∧ cellZ (runeZ c) = c) := by
  have key : ∀ m : Fin 256, runeZ (m.val : Int) = 65533 ∨ (32 ≤ runeZ (m.val : Int) ∧ runeZ (m.val : Int) ≤ 126 ∧ cellZ (runeZ (m.val : Int)) = (m.val : Int)) := by decide +kernel
  obtain ⟨m, rfl⟩ := Int.eq_ofNat_of_zero_le h
  have hlt : m < 256 := by omega
  have h2 := key ⟨m, hlt⟩
  dsimp only at h2
  exact h2
def biP (ts : List TV) : Prop := ∃ a b c, ts = [.int a, .int b, .int c] ∧ (-2147483648 ≤ a ∧ a ≤ 2147483647) ∧ (-2147483648 ≤ b ∧ b ≤ 2147483647) ∧ 0 ≤ c ∧ c ≤ 255
theorem biP_of {t u v : TV} (h : OkA false [.int .i32] t) (k : OkA false [.int .i32] u) (l : OkA false [.int .u8] v) : biP [t, u, v] := by
  obtain ⟨a, rfl, h1, h2⟩ := h.int
  obtain ⟨b, rfl, h3, h4⟩ := k.int
  obtain ⟨c, rfl, h5, h6⟩ := l.int
  exact ⟨a, b, c, rfl, ⟨h1, h2⟩, ⟨h3, h4⟩, h5, h6⟩
theorem hasZ_iff {a : Int} : hasZ a = true ↔ 32 ≤ a ∧ a ≤ 126 := by unfold hasZ; simp
theorem bijection_c (k : Nat) : Contract Tryd.prog (mkEnv globT []) gtab (sn_law51_ComputerbrailleBijection k) (trueL biP).pre (trueL biP).post := Contract.env (Γ := mkEnv globT [cellL, runeL, awakeL]) (contract_law51_ComputerbrailleBijection (fun _ => rfl) (fun s hs => by
    simp only [cx_law51_ComputerbrailleBijection, List.mem_cons, List.not_mem_nil, or_false] at hs
    rcases hs with rfl | rfl | rfl
    · exact Contract.inEnv rfl (cell_c 0) rfl
    · exact Contract.inEnv rfl (rune_c 1) rfl
    · exact Contract.inEnv rfl (awake_c 2) rfl) k (by
  rintro ts hl ⟨a, b, c, rfl, ⟨h0, h1⟩, ⟨h2, h3⟩, h4, h5⟩
  have fin : (trueL biP).post [.int a, .int b, .int c] (.bool true) := rfl
  generalize (trueL biP).post [.int a, .int b, .int c] = R at fin ⊢
  unfold tr_law51_ComputerbrailleBijection
  have hrc := rune_facts h4 h5
  have pc : cellL.pre [.int (runeZ c)] := cell_pre (by omega) (by omega)
  simp only [Tree.den, E.den, P1.den, P2.den, P3.den, List.map_cons, List.map_nil, List.cons_append, List.nil_append, List.getD_cons_zero, List.getD_cons_succ, List.getElem?_cons_zero, List.getElem?_cons_succ, asInt_int, asBool_bool, asStr_str, asList_list, cells_agg, TV.cell, pre_zero, pre_succ, post_zero, post_succ, decide_eq_true_eq, decide_eq_false_iff_not, beq_iff_eq, beq_eq_false_iff_ne, Bool.not_eq_true', Bool.not_eq_false', ne_eq, List.length_cons, List.length_nil, forall_eq, Bool.false_eq_true, Bool.true_eq_false, Int.reduceToNat, Option.some.injEq, exists_eq_left', cell_all, rune_all, awake_all, pairT, awake_pre, rune_pre, pc, cell_pre h0 h1, cell_pre h2 h3, true_and]
  have fa : 32 ≤ a → a ≤ 126 → cellZ a ≠ 255 ∧ runeZ (cellZ a) = a := cell_facts
  have fb : 32 ≤ b → b ≤ 126 → cellZ b ≠ 255 ∧ runeZ (cellZ b) = b := cell_facts
  have fr : ¬ runeZ c = 65533 → hasZ (runeZ c) = true ∧ cellZ (runeZ c) = c := fun h => by
    rcases hrc with h' | h'
    · exact absurd h' h
    · exact ⟨hasZ_iff.2 ⟨h'.1, h'.2.1⟩, h'.2.2⟩
  have e3 : ((runeZ c = 65533 → R (.bool true)) ∧ (¬runeZ c = 65533 → (hasZ (runeZ c) = true → (cellZ (runeZ c) = c → R (.bool true)) ∧ (¬cellZ (runeZ c) = c → R (.bool false))) ∧ (hasZ (runeZ c) = false → R (.bool false)))) = True :=
    eq_true ⟨fun _ => fin, fun h => ⟨fun _ => ⟨fun _ => fin, fun h' => absurd (fr h).2 h'⟩, fun h' => by rw [(fr h).1] at h'; cases h'⟩⟩
  have e4 : hasZ a = true → hasZ b = true → (cellZ a == cellZ b) = (a == b) := fun ha hb => by
    have h1 := hasZ_iff.1 ha
    have h2 := hasZ_iff.1 hb
    have g1 := (fa h1.1 h1.2).2
    have g2 := (fb h2.1 h2.2).2
    by_cases hab : a = b
    · subst hab; simp
    · have : ¬ cellZ a = cellZ b := fun e => hab (by rw [← g1, ← g2, e])
      rw [beq_eq_false_iff_ne.2 this, beq_eq_false_iff_ne.2 hab]
  have e5 : 32 ≤ a → hasZ a = decide (a ≤ 126) := fun h => by unfold hasZ; rw [decide_eq_true h, Bool.true_and]
  have e6 : ¬ 32 ≤ a → hasZ a = false := fun h => by unfold hasZ; rw [decide_eq_false h, Bool.false_and]
  simp only [e3]
  clear e3
  have ef : hasZ a = true → cellZ a ≠ 255 ∧ runeZ (cellZ a) = a := fun h => fa (hasZ_iff.1 h).1 (hasZ_iff.1 h).2
  repeat' (first | apply And.intro | intro _)
  all_goals first
    | trivial
    | (exfalso; rename_i x; exact absurd (e5 (by assumption)) x)
    | (exfalso; rename_i x; exact x (e6 (by assumption)))
    | (exfalso; rename_i x; exact (ef (by assumption)).1 x)
    | (exfalso; rename_i x; exact x (ef (by assumption)).2)
    | (exfalso; rename_i x; exact x (e4 (by assumption) (by assumption)))
    | (exfalso; simp_all))) rfl
end Go.Proofs.YtccpepheooleoaaDoor
