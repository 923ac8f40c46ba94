/- The contracts of Cell and Rune, the program's and the reference's. -/
import Derived.Test.YtbeelajedknohaaDoorC1
import Derived.Test.YtbeelajedknohaaDoorUs
namespace Go.Proofs.YtbeelajedknohaaDoor
set_option linter.unusedSimpArgs false
set_option linter.unusedVariables false
set_option linter.unusedSectionVars false

theorem braille_len : brailleZ.length = 95 := rfl
theorem glob_braille : globT 2 = brailleT := rfl
/-- The cell of a character; whether it has one. -/
def cellZ (r : Int) : Int := if r < 32 ∨ 126 < r then 0 else brailleZ.getD (r - 32).toNat 0
def hasZ (r : Int) : Bool := decide (32 ≤ r) && decide (r ≤ 126)
def runeAt : List Int → Int → Int → Int
  | [], _, _ => 65533
  | x :: l, c, i => if x = c then i else runeAt l c (i + 1)
def runeZ (c : Int) : Int := runeAt brailleZ c 32
def pairT (a : Int) (b : Bool) : TV := .agg [.int a, .bool b]

def cellL : Law := ⟨fun ts => ∃ r, ts = [.int r] ∧ -2147483648 ≤ r ∧ r ≤ 2147483647, fun ts x => ∀ r, ts = [.int r] → x = pairT (cellZ r) (hasZ r)⟩
theorem cell_pre {r : Int} (h : -2147483648 ≤ r) (k : r ≤ 2147483647) : cellL.pre [.int r] := ⟨r, rfl, h, k⟩
theorem cell_all {r : Int} {Q : TV → Prop} : (∀ x, cellL.post [.int r] x → Q x) ↔ Q (pairT (cellZ r) (hasZ r)) :=
  ⟨fun h => h _ fun b' e => by simp only [List.cons.injEq, TV.int.injEq, and_true] at e; rw [e], fun h x hx => by rw [hx r rfl]; exact h⟩
theorem cell_fin {r : Int} : ∀ x : TV, x = pairT (cellZ r) (hasZ r) → cellL.post [.int r] x := fun x hr b' e => by
  simp only [List.cons.injEq, TV.int.injEq, and_true] at e
  subst e
  exact hr
theorem brailleT_len : (brailleT).asList.length = 95 := rfl
theorem brailleT_get (i : Nat) : (brailleT).asList.getD i (.int 0) = .int (brailleZ.getD i 0) := ints_get brailleZ i
theorem cell_c (k : Nat) : Contract Tryd.prog (mkEnv globT []) gtab (sn_computerbraille_Cell k) cellL.pre cellL.post := contract_computerbraille_Cell (fun _ => rfl) (fun s hs => by cases hs) k (by
  rintro ts hl ⟨r, rfl, h0, h1⟩
  have fin := cell_fin (r := r)
  generalize cellL.post [.int r] = R at fin ⊢
  unfold tr_computerbraille_Cell
  simp only [Tree.den, E.den, P1.den, P2.den, P3.den, List.map_cons, List.map_nil, List.cons_append, List.nil_append, List.getD_cons_zero, List.getD_cons_succ, List.getElem?_cons_zero, List.getElem?_cons_succ, asInt_int, asBool_bool, asStr_str, asList_list, cells_agg, TV.cell, pre_zero, pre_succ, post_zero, post_succ, decide_eq_true_eq, decide_eq_false_iff_not, beq_iff_eq, beq_eq_false_iff_ne, Bool.not_eq_true', Bool.not_eq_false', ne_eq, List.length_cons, List.length_nil, forall_eq, Bool.false_eq_true, Bool.true_eq_false, Int.reduceToNat, Option.some.injEq, exists_eq_left']
  have hg : (mkEnv globT []).glob 2 = brailleT := rfl
  simp only [hg, brailleT_len, brailleT_get]
  refine ⟨fun h => fin _ ?_, fun h => ⟨fun h' => fin _ ?_, fun h' => ?_⟩⟩
  · unfold pairT cellZ hasZ; rw [if_pos (by omega), decide_eq_false (by omega), Bool.false_and]
  · unfold pairT cellZ hasZ; rw [if_pos (by omega), decide_eq_false (p := r ≤ 126) (by omega), Bool.and_false]
  · rw [wrap_i32 (n := r - 32) (by omega) (by omega)]
    refine ⟨?_, by omega, by omega, fin _ ?_⟩
    · decide
    unfold pairT cellZ hasZ; rw [if_neg (by omega), decide_eq_true (by omega), decide_eq_true (by omega), Bool.true_and])

def tableL : Law := ⟨fun ts => ts = [], fun ts x => x = brailleT⟩
theorem table_c (k : Nat) : Contract Tryd.prog (mkEnv globT []) gtab (sn_ref51_Table k) tableL.pre tableL.post := contract_ref51_Table (fun _ => rfl) (fun s hs => by cases hs) k (by
  rintro ts hl rfl
  rfl)
theorem table_all {Q : TV → Prop} : (∀ x, tableL.post [] x → Q x) ↔ Q brailleT := ⟨fun h => h _ rfl, fun h x hx => by rw [hx]; exact h⟩
theorem table_pre : tableL.pre [] := rfl
theorem refCell_c (k : Nat) : Contract Tryd.prog (mkEnv globT []) gtab (sn_ref51_Cell k) cellL.pre cellL.post := Contract.env (Γ := mkEnv globT [tableL]) (contract_ref51_Cell (fun _ => rfl) (fun s hs => by
    simp only [cx_ref51_Cell, List.mem_singleton] at hs
    subst hs
    exact Contract.inEnv rfl (table_c 0) rfl) k (by
  rintro ts hl ⟨r, rfl, h0, h1⟩
  have fin := cell_fin (r := r)
  generalize cellL.post [.int r] = R at fin ⊢
  unfold tr_ref51_Cell
  simp only [Tree.den, E.den, P1.den, P2.den, P3.den, List.map_cons, List.map_nil, List.cons_append, List.nil_append, List.getD_cons_zero, List.getD_cons_succ, List.getElem?_cons_zero, List.getElem?_cons_succ, asInt_int, asBool_bool, asStr_str, asList_list, cells_agg, TV.cell, pre_zero, pre_succ, post_zero, post_succ, decide_eq_true_eq, decide_eq_false_iff_not, beq_iff_eq, beq_eq_false_iff_ne, Bool.not_eq_true', Bool.not_eq_false', ne_eq, List.length_cons, List.length_nil, forall_eq, Bool.false_eq_true, Bool.true_eq_false, Int.reduceToNat, Option.some.injEq, exists_eq_left', table_all]
  simp only [brailleT_len, brailleT_get]
  refine ⟨fun h => fin _ ?_, fun h => ⟨fun h' => fin _ ?_, fun h' => ?_⟩⟩
  · unfold pairT cellZ hasZ; rw [if_pos (by omega), decide_eq_false (by omega), Bool.false_and]
  · unfold pairT cellZ hasZ; rw [if_pos (by omega), decide_eq_false (p := r ≤ 126) (by omega), Bool.and_false]
  · rw [wrap_i32 (n := r - 32) (by omega) (by omega)]
    refine ⟨table_pre, by omega, by omega, fin _ ?_⟩
    unfold pairT cellZ hasZ; rw [if_neg (by omega), decide_eq_true (by omega), decide_eq_true (by omega), Bool.true_and])) rfl

/-! ### Rune -/
def runeL : Law := ⟨fun ts => ∃ c, ts = [.int c], fun ts x => ∀ c, ts = [.int c] → x = .int (runeZ c)⟩
theorem rune_pre {c : Int} : runeL.pre [.int c] := ⟨c, rfl⟩
theorem rune_all {c : Int} {Q : TV → Prop} : (∀ x, runeL.post [.int c] x → Q x) ↔ Q (.int (runeZ c)) :=
  ⟨fun h => h _ fun b' e => by simp only [List.cons.injEq, TV.int.injEq, and_true] at e; rw [e], fun h x hx => by rw [hx c rfl]; exact h⟩
theorem rune_fin {c : Int} : ∀ x : TV, x = .int (runeZ c) → runeL.post [.int c] x := fun x hr b' e => by
  simp only [List.cons.injEq, TV.int.injEq, and_true] at e
  subst e
  exact hr
def UI (c : Int) (xs : List TV) : Prop := ∃ k : Nat, xs = [.int k] ∧ k ≤ 95 ∧ runeAt (brailleZ.drop k) c (32 + k) = runeZ c
def Um (xs : List TV) : Nat := 95 - (xs.getD 0 (.int 0)).asInt.toNat
theorem runeAt_drop {k : Nat} (h : k < 95) (c : Int) : runeAt (brailleZ.drop k) c (32 + k) = if brailleZ.getD k 0 = c then 32 + (k : Int) else runeAt (brailleZ.drop (k + 1)) c (32 + (k + 1 : Nat)) := by
  have hl : k < brailleZ.length := h
  rw [List.drop_eq_getElem_cons hl, List.getD_eq_getElem?_getD, List.getElem?_eq_getElem hl]
  show (if _ then _ else _) = _
  split <;> rename_i hh
  · rw [if_pos (by simpa using hh)]
  · rw [if_neg (by simpa using hh)]; congr 1
theorem UI.step {c : Int} {k : Nat} (h : k < 95) (hk : runeAt (brailleZ.drop k) c (32 + k) = runeZ c) (hne : ¬ brailleZ.getD k 0 = c) : UI c [.int (k + 1)] ∧ Um [.int ((k : Int) + 1)] < 95 - k := by
  rw [runeAt_drop h, if_neg hne] at hk
  refine ⟨⟨k + 1, rfl, by omega, hk⟩, ?_⟩
  simp only [Um, List.getD_cons_zero, asInt_int]; omega
theorem rune_c (k : Nat) : Contract Tryd.prog (mkEnv globT []) gtab (sn_computerbraille_Rune k) runeL.pre runeL.post := contract_computerbraille_Rune (fun _ => rfl) (fun s hs => by cases hs) k (by
  rintro ts hl ⟨c, rfl⟩
  have fin := rune_fin (c := c)
  generalize runeL.post [.int c] = R at fin ⊢
  unfold tr_computerbraille_Rune
  simp only [Tree.den, E.den, P1.den, P2.den, P3.den, List.map_cons, List.map_nil, List.cons_append, List.nil_append, List.getD_cons_zero, List.getD_cons_succ, List.getElem?_cons_zero, List.getElem?_cons_succ, asInt_int, asBool_bool, asStr_str, asList_list, cells_agg, TV.cell, pre_zero, pre_succ, post_zero, post_succ, decide_eq_true_eq, decide_eq_false_iff_not, beq_iff_eq, beq_eq_false_iff_ne, Bool.not_eq_true', Bool.not_eq_false', ne_eq, List.length_cons, List.length_nil, forall_eq, Bool.false_eq_true, Bool.true_eq_false, Int.reduceToNat, Option.some.injEq, exists_eq_left']
  have hg : (mkEnv globT []).glob 2 = brailleT := rfl
  simp only [hg, brailleT_len, brailleT_get]
  refine ⟨UI c, Um, ⟨0, rfl, by omega, rfl⟩, ?_⟩
  rintro xs _ ⟨k, rfl, hk, hu⟩
  have hD : Um [.int (k : Int)] = 95 - k := rfl
  simp only [Tree.den, E.den, P1.den, P2.den, P3.den, List.map_cons, List.map_nil, List.cons_append, List.nil_append, List.getD_cons_zero, List.getD_cons_succ, List.getElem?_cons_zero, List.getElem?_cons_succ, asInt_int, asBool_bool, asStr_str, asList_list, cells_agg, TV.cell, pre_zero, pre_succ, post_zero, post_succ, decide_eq_true_eq, decide_eq_false_iff_not, beq_iff_eq, beq_eq_false_iff_ne, Bool.not_eq_true', Bool.not_eq_false', ne_eq, List.length_cons, List.length_nil, forall_eq, Bool.false_eq_true, Bool.true_eq_false, Int.reduceToNat, Option.some.injEq, exists_eq_left', ints_asList, map_snoc, map_app, list_map, ints_nil, ints_get, ints_len, bs_get, Int.toNat_natCast, List.length_append, List.length_map, bs_length, hD]
  refine ⟨fun hlt => ⟨by omega, by omega, by omega, fun he => fin _ ?_, fun he => ?_⟩, fun hlt => fin _ ?_⟩
  · rw [runeAt_drop (by omega), if_pos he] at hu
    rw [wrap_i32 (n := (k : Int)) (by omega) (by omega), wrap_i32 (n := 32 + (k : Int)) (by omega) (by omega), hu]
  · rw [wrap_i64 (n := (k : Int) + 1) (by omega) (by omega)]
    exact UI.step (by omega) hu he
  · have : k = 95 := by omega
    subst this
    rw [← hu]; rfl)
theorem refRune_c (k : Nat) : Contract Tryd.prog (mkEnv globT []) gtab (sn_ref51_Rune k) runeL.pre runeL.post := Contract.env (Γ := mkEnv globT [tableL]) (contract_ref51_Rune (fun _ => rfl) (fun s hs => by
    simp only [cx_ref51_Rune, List.mem_singleton] at hs
    subst hs
    exact Contract.inEnv rfl (table_c 0) rfl) k (by
  rintro ts hl ⟨c, rfl⟩
  have fin := rune_fin (c := c)
  generalize runeL.post [.int c] = R at fin ⊢
  unfold tr_ref51_Rune
  simp only [Tree.den, E.den, P1.den, P2.den, P3.den, List.map_cons, List.map_nil, List.cons_append, List.nil_append, List.getD_cons_zero, List.getD_cons_succ, List.getElem?_cons_zero, List.getElem?_cons_succ, asInt_int, asBool_bool, asStr_str, asList_list, cells_agg, TV.cell, pre_zero, pre_succ, post_zero, post_succ, decide_eq_true_eq, decide_eq_false_iff_not, beq_iff_eq, beq_eq_false_iff_ne, Bool.not_eq_true', Bool.not_eq_false', ne_eq, List.length_cons, List.length_nil, forall_eq, Bool.false_eq_true, Bool.true_eq_false, Int.reduceToNat, Option.some.injEq, exists_eq_left', table_all]
  simp only [brailleT_len, brailleT_get]
  refine ⟨table_pre, UI c, Um, ⟨0, rfl, by omega, rfl⟩, ?_⟩
  rintro xs _ ⟨k, rfl, hk, hu⟩
  have hD : Um [.int (k : Int)] = 95 - k := rfl
  simp only [Tree.den, E.den, P1.den, P2.den, P3.den, List.map_cons, List.map_nil, List.cons_append, List.nil_append, List.getD_cons_zero, List.getD_cons_succ, List.getElem?_cons_zero, List.getElem?_cons_succ, asInt_int, asBool_bool, asStr_str, asList_list, cells_agg, TV.cell, pre_zero, pre_succ, post_zero, post_succ, decide_eq_true_eq, decide_eq_false_iff_not, beq_iff_eq, beq_eq_false_iff_ne, Bool.not_eq_true', Bool.not_eq_false', ne_eq, List.length_cons, List.length_nil, forall_eq, Bool.false_eq_true, Bool.true_eq_false, Int.reduceToNat, Option.some.injEq, exists_eq_left', ints_asList, map_snoc, map_app, list_map, ints_nil, ints_get, ints_len, bs_get, Int.toNat_natCast, List.length_append, List.length_map, bs_length, hD, brailleT_len, brailleT_get]
  refine ⟨fun hlt => ⟨by omega, by omega, fun he => fin _ ?_, fun he => ?_⟩, fun hlt => fin _ ?_⟩
  · rw [runeAt_drop (by omega), if_pos he] at hu
    rw [wrap_i64 (n := 32 + (k : Int)) (by omega) (by omega), wrap_i32 (n := 32 + (k : Int)) (by omega) (by omega), hu]
  · rw [wrap_i64 (n := (k : Int) + 1) (by omega) (by omega)]
    exact UI.step (by omega) hu he
  · have : k = 95 := by omega
    subst this
    rw [← hu]; rfl)) rfl
end Go.Proofs.YtbeelajedknohaaDoor
