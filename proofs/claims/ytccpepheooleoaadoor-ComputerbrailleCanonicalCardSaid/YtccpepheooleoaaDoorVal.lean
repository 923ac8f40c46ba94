/- The contract of Valid; the laws of concatenation, of the round trip, of canonical cells; the tables, laid. -/
import Derived.Test.YtccpepheooleoaaDoorTxu
import Derived.Test.YtccpepheooleoaaDoorCg
namespace Go.Proofs.YtccpepheooleoaaDoor
set_option linter.unusedSimpArgs false
set_option linter.unusedVariables false
set_option linter.unusedSectionVars false

def validL : Law := ⟨fun ts => ∃ (s : List UInt8), ts = [.str s] ∧ (s.length ≤ 9223372036854775807), fun ts r => ∀ (s : List UInt8), ts = [.str s] → r = .bool (Lib.validD s)⟩
theorem valid_pre {s : List UInt8} (h : s.length ≤ 9223372036854775807) : validL.pre [.str s] := ⟨s, rfl, h⟩
theorem valid_fin {s : List UInt8} {r : TV} (h : r = .bool (Lib.validD s)) : validL.post [.str s] r := fun s₁ e => by
  simp only [List.cons.injEq, TV.str.injEq, TV.int.injEq, TV.bool.injEq, TV.agg.injEq, TV.list.injEq, ints_eq, and_true, true_and, and_assoc] at e; subst e
  exact h
theorem valid_all {s : List UInt8} {Q : TV → Prop} : (∀ r, validL.post [.str s] r → Q r) ↔ Q (.bool (Lib.validD s)) := ⟨fun h => h _ (valid_fin rfl), fun h r hr => by rw [hr _ rfl]; exact h⟩
theorem valid_c (k : Nat) : Contract Tryd.prog (mkEnv globT []) gtabU (sn_utf8stream_Valid k) validL.pre validL.post := Contract.env (Γ := mkEnv globT [validSL]) (contract_utf8stream_Valid (fun _ => rfl) (fun s hs => by
    simp only [cx_utf8stream_Valid, List.mem_cons, List.not_mem_nil, or_false] at hs
    rcases hs with rfl
    · exact Contract.inEnv rfl (validS_c 0) rfl) k (by
  rintro ts hl ⟨s, rfl, hp⟩
  have hfin : ∀ r : TV, r = .bool (Lib.validD s) → validL.post [.str s] r := fun r h => valid_fin h
  generalize validL.post [.str s] = R at hfin ⊢
  unfold tr_utf8stream_Valid
  simp only [Tree.den, E.den, P1.den, P2.den, P3.den, List.map_cons, List.map_nil, List.cons_append, List.nil_append, List.getD_cons_zero, List.getD_cons_succ, List.getElem?_cons_zero, List.getElem?_cons_succ, asInt_int, asBool_bool, asStr_str, asList_list, cells_agg, TV.cell, pre_zero, pre_succ, post_zero, post_succ, decide_eq_true_eq, decide_eq_false_iff_not, beq_iff_eq, beq_eq_false_iff_ne, Bool.not_eq_true', Bool.not_eq_false', ne_eq, List.length_cons, List.length_nil, forall_eq, Bool.false_eq_true, Bool.true_eq_false, Int.reduceToNat, Option.some.injEq, exists_eq_left', validS_all]
  exact ⟨validS_pre hp, hfin _ rfl⟩)) rfl
def twoSP (ts : List TV) : Prop := ∃ s t, ts = [.str s, .str t] ∧ s.length ≤ reachBytes ∧ t.length ≤ reachBytes
theorem twoSP_of {t u : TV} (h : OkA false [.str] t) (k : OkA false [.str] u) : twoSP [t, u] := by
  obtain ⟨s, rfl, h1⟩ := h.str
  obtain ⟨s', rfl, h2⟩ := k.str
  exact ⟨s, s', rfl, h1, h2⟩
theorem fin_valid {s : List UInt8} (h : validB s) : ∃ l, Chars l ∧ bs s = encZ l ∧ fin (bs s) = l := by
  obtain ⟨l, h1, h2⟩ := h
  refine ⟨l, h1, h2, ?_⟩
  rw [h2, fin_encZ, chZs_of h1]
theorem fin_len' (s : List UInt8) : (fin (bs s)).length ≤ s.length := by have := fin_len (bs s); rw [bs_length] at this; exact this
theorem cells_len (s : List UInt8) : (cellsZ (fin (bs s))).length ≤ 7 * s.length := by
  have h1 := fin_len' s
  have h2 := cellsZ_len (fin (bs s))
  omega
theorem cell_byte (x : Int) : 0 ≤ cellZ x ∧ cellZ x ≤ 255 := by
  unfold cellZ
  split
  · omega
  · have key : ∀ i : Nat, 0 ≤ brailleZ.getD i 0 ∧ brailleZ.getD i 0 ≤ 255 := fun i => by
      rcases Nat.lt_or_ge i 95 with h | h
      · have key : ∀ i : Fin 95, 0 ≤ brailleZ.getD i.val 0 ∧ brailleZ.getD i.val 0 ≤ 255 := by decide +kernel
        exact key ⟨i, h⟩
      · rw [List.getD_eq_getElem?_getD, List.getElem?_eq_none (by rw [braille_len]; exact h)]
        decide
    exact key _
theorem one_byte (r : Int) : Byte (oneZ r) := fun b hb => by
  unfold oneZ at hb
  split at hb
  · simp at hb; subst hb; exact cell_byte _
  · unfold escZ at hb
    simp only [List.mem_cons, List.not_mem_nil, or_false] at hb
    rcases hb with rfl | rfl | rfl | rfl | rfl | rfl | rfl
    · omega
    all_goals exact cell_byte _
theorem cells_byte (l : List Int) : Byte (cellsZ l) := fun b hb => by
  obtain ⟨r, _, hb⟩ := List.mem_flatMap.1 hb
  exact one_byte r b hb
theorem validD_false {s : List UInt8} (h : ¬ validB s) : Lib.validD s = false := by
  cases hv : Lib.validD s with
  | false => rfl
  | true => exact absurd ((validD_iff s).1 hv) h
theorem cellsZ_append (l m : List Int) : cellsZ (l ++ m) = cellsZ l ++ cellsZ m := by simp [cellsZ, List.flatMap_append]

theorem concat_c (k : Nat) : Contract Tryd.prog (mkEnv globT []) gtabU (sn_law51_ComputerbrailleConcatenation k) (trueL twoSP).pre (trueL twoSP).post := Contract.env (Γ := mkEnv globT [cellsL, sameL, awakeL, validL]) (contract_law51_ComputerbrailleConcatenation (fun _ => rfl) (fun s hs => by
    simp only [cx_law51_ComputerbrailleConcatenation, List.mem_cons, List.not_mem_nil, or_false] at hs
    rcases hs with rfl | rfl | rfl | rfl
    · exact Contract.inEnv rfl ((progCells_c 0).gt gtab_sub) rfl
    · exact Contract.inEnv rfl ((same_c 1).gt gtab_sub) rfl
    · exact Contract.inEnv rfl ((awake_c 2).gt gtab_sub) rfl
    · exact Contract.inEnv rfl (valid_c 3) rfl) k (by
  rintro ts hl ⟨a, b, rfl, _, _⟩
  unfold tr_law51_ComputerbrailleConcatenation
  have hca := cells_len a
  have hcb := cells_len b
  simp only [Tree.den, E.den, P1.den, P2.den, P3.den, List.map_cons, List.map_nil, List.cons_append, List.nil_append, List.getD_cons_zero, List.getD_cons_succ, List.getElem?_cons_zero, List.getElem?_cons_succ, asInt_int, asBool_bool, asStr_str, asList_list, cells_agg, TV.cell, pre_zero, pre_succ, post_zero, post_succ, decide_eq_true_eq, decide_eq_false_iff_not, beq_iff_eq, beq_eq_false_iff_ne, Bool.not_eq_true', Bool.not_eq_false', ne_eq, List.length_cons, List.length_nil, forall_eq, Bool.false_eq_true, Bool.true_eq_false, Int.reduceToNat, Option.some.injEq, exists_eq_left', awake_all, valid_all, cells_all]
  simp only [Tree.den, E.den, P1.den, P2.den, P3.den, List.map_cons, List.map_nil, List.cons_append, List.nil_append, List.getD_cons_zero, List.getD_cons_succ, List.getElem?_cons_zero, List.getElem?_cons_succ, asInt_int, asBool_bool, asStr_str, asList_list, cells_agg, TV.cell, pre_zero, pre_succ, post_zero, post_succ, decide_eq_true_eq, decide_eq_false_iff_not, beq_iff_eq, beq_eq_false_iff_ne, Bool.not_eq_true', Bool.not_eq_false', ne_eq, List.length_cons, List.length_nil, forall_eq, Bool.false_eq_true, Bool.true_eq_false, Int.reduceToNat, Option.some.injEq, exists_eq_left', ints_asList, map_snoc, map_app, list_map, ints_nil, ints_get, ints_len, bs_get, Int.toNat_natCast, List.length_append, List.length_map, bs_length, awake_all, valid_all, cells_all, same_all]
  refine ⟨fun _ => ⟨awake_pre, rfl⟩, fun ha => ⟨fun _ => ⟨awake_pre, rfl⟩, fun hb => ⟨valid_pre (by omega), fun _ => ⟨awake_pre, rfl⟩, fun hva => ⟨valid_pre (by omega), fun _ => ⟨awake_pre, rfl⟩, fun hvb => ⟨cells_pre (by omega), by omega, cells_pre (by omega), by omega, by omega, cells_pre (by rw [List.length_append]; omega), same_pre ?_, fun _ => ⟨awake_pre, rfl⟩, fun h => absurd ?_ h⟩⟩⟩⟩⟩
  · have := cells_len (a ++ b)
    rw [List.length_append] at this
    omega
  · obtain ⟨l, h1, h2, h3⟩ := fin_valid ((validD_iff a).1 hva)
    obtain ⟨m, h4, h5, h6⟩ := fin_valid ((validD_iff b).1 hvb)
    have hlm : Chars (l ++ m) := fun n hn => by
      rcases List.mem_append.1 hn with hn | hn
      · exact h1 n hn
      · exact h4 n hn
    rw [h3, h6, bs_append, h2, h5, ← encZ_append, fin_encZ, chZs_of hlm, cellsZ_append])) rfl
theorem round_c (k : Nat) : Contract Tryd.prog (mkEnv globT []) gtabU (sn_law51_ComputerbrailleRoundTrip k) (trueL strP).pre (trueL strP).post := Contract.env (Γ := mkEnv globT [decodeL, finishL, encL, cellsL, awakeL, textL, validL]) (contract_law51_ComputerbrailleRoundTrip (fun _ => rfl) (fun s hs => by
    simp only [cx_law51_ComputerbrailleRoundTrip, List.mem_cons, List.not_mem_nil, or_false] at hs
    rcases hs with rfl | rfl | rfl | rfl | rfl | rfl | rfl
    · exact Contract.inEnv rfl ((decode_c 0).gt gtab_sub) rfl
    · exact Contract.inEnv rfl ((finish_c 1).gt gtab_sub) rfl
    · exact Contract.inEnv rfl ((enc_c 2).gt gtab_sub) rfl
    · exact Contract.inEnv rfl ((progCells_c 3).gt gtab_sub) rfl
    · exact Contract.inEnv rfl ((awake_c 4).gt gtab_sub) rfl
    · exact Contract.inEnv rfl ((text_c 5).gt gtab_sub) rfl
    · exact Contract.inEnv rfl (valid_c 6) rfl) k (by
  rintro ts hl ⟨s, rfl, _⟩
  unfold tr_law51_ComputerbrailleRoundTrip
  have hca := cells_len s
  have hfl := fin_len' s
  have hrest := bs_rest s
  have hch := fin_chars s
  have htc : textT (cellsZ (fin (bs s))) = .agg [.str (unbs (encZ (fin (bs s)))), .int 0] := textT_some (text_cells hch)
  simp only [Tree.den, E.den, P1.den, P2.den, P3.den, List.map_cons, List.map_nil, List.cons_append, List.nil_append, List.getD_cons_zero, List.getD_cons_succ, List.getElem?_cons_zero, List.getElem?_cons_succ, asInt_int, asBool_bool, asStr_str, asList_list, cells_agg, TV.cell, pre_zero, pre_succ, post_zero, post_succ, decide_eq_true_eq, decide_eq_false_iff_not, beq_iff_eq, beq_eq_false_iff_ne, Bool.not_eq_true', Bool.not_eq_false', ne_eq, List.length_cons, List.length_nil, forall_eq, Bool.false_eq_true, Bool.true_eq_false, Int.reduceToNat, Option.some.injEq, exists_eq_left', awake_all, decode_all, finish_all, decT, List.nil_append]
  simp only [Tree.den, E.den, P1.den, P2.den, P3.den, List.map_cons, List.map_nil, List.cons_append, List.nil_append, List.getD_cons_zero, List.getD_cons_succ, List.getElem?_cons_zero, List.getElem?_cons_succ, asInt_int, asBool_bool, asStr_str, asList_list, cells_agg, TV.cell, pre_zero, pre_succ, post_zero, post_succ, decide_eq_true_eq, decide_eq_false_iff_not, beq_iff_eq, beq_eq_false_iff_ne, Bool.not_eq_true', Bool.not_eq_false', ne_eq, List.length_cons, List.length_nil, forall_eq, Bool.false_eq_true, Bool.true_eq_false, Int.reduceToNat, Option.some.injEq, exists_eq_left', ints_asList, map_snoc, map_app, list_map, ints_nil, ints_get, ints_len, bs_get, Int.toNat_natCast, List.length_append, List.length_map, bs_length, awake_all, finish_all, hrest, ← fin_split, enc_all, valid_all, cells_all, text_all, htc]
  have hdl := dec_len (bs s)
  have hsl := bs_length s
  have hul := unbs_len (dec (bs s)).2
  refine ⟨fun _ => ⟨awake_pre, rfl⟩, fun ha => ⟨decode_pre (by rw [List.length_nil]; omega), finish_pre (by omega), ?_⟩⟩
  have hff : (fin (dec (bs s)).2).length ≤ (dec (bs s)).2.length := fin_len _
  refine ⟨by omega, enc_pre ⟨hch.run, by omega⟩, valid_pre (by omega), fun hv => ⟨cells_pre (by omega), text_pre ⟨cells_byte _, by omega⟩, fun _ => ⟨fun _ => ⟨awake_pre, rfl⟩, fun h => absurd trivial h⟩, fun h => absurd ?_ h⟩, fun hv => ⟨cells_pre (by omega), text_pre ⟨cells_byte _, by omega⟩, fun _ => ⟨fun _ => ⟨awake_pre, rfl⟩, fun h => absurd trivial h⟩, fun h => absurd trivial h⟩⟩
  obtain ⟨l, h1, h2, h3⟩ := fin_valid ((validD_iff s).1 hv)
  rw [h3, ← h2, unbs_bs])) rfl
theorem canon_c (k : Nat) : Contract Tryd.prog (mkEnv globT []) gtabU (sn_law51_ComputerbrailleCanonical k) (trueL cellsP).pre (trueL cellsP).post := Contract.env (Γ := mkEnv globT [cellsL, sameL, awakeL, textL, validL]) (contract_law51_ComputerbrailleCanonical (fun _ => rfl) (fun s hs => by
    simp only [cx_law51_ComputerbrailleCanonical, List.mem_cons, List.not_mem_nil, or_false] at hs
    rcases hs with rfl | rfl | rfl | rfl | rfl
    · exact Contract.inEnv rfl ((progCells_c 0).gt gtab_sub) rfl
    · exact Contract.inEnv rfl ((same_c 1).gt gtab_sub) rfl
    · exact Contract.inEnv rfl ((awake_c 2).gt gtab_sub) rfl
    · exact Contract.inEnv rfl ((text_c 3).gt gtab_sub) rfl
    · exact Contract.inEnv rfl (valid_c 4) rfl) k (by
  rintro ts hl ⟨l, rfl, hb, _⟩
  unfold tr_law51_ComputerbrailleCanonical
  cases htz : textZ l with
  | none =>
    have ht := textT_none htz
    simp only [Tree.den, E.den, P1.den, P2.den, P3.den, List.map_cons, List.map_nil, List.cons_append, List.nil_append, List.getD_cons_zero, List.getD_cons_succ, List.getElem?_cons_zero, List.getElem?_cons_succ, asInt_int, asBool_bool, asStr_str, asList_list, cells_agg, TV.cell, pre_zero, pre_succ, post_zero, post_succ, decide_eq_true_eq, decide_eq_false_iff_not, beq_iff_eq, beq_eq_false_iff_ne, Bool.not_eq_true', Bool.not_eq_false', ne_eq, List.length_cons, List.length_nil, forall_eq, Bool.false_eq_true, Bool.true_eq_false, Int.reduceToNat, Option.some.injEq, exists_eq_left', awake_all, text_all, ht]
    simp only [Tree.den, E.den, P1.den, P2.den, P3.den, List.map_cons, List.map_nil, List.cons_append, List.nil_append, List.getD_cons_zero, List.getD_cons_succ, List.getElem?_cons_zero, List.getElem?_cons_succ, asInt_int, asBool_bool, asStr_str, asList_list, cells_agg, TV.cell, pre_zero, pre_succ, post_zero, post_succ, decide_eq_true_eq, decide_eq_false_iff_not, beq_iff_eq, beq_eq_false_iff_ne, Bool.not_eq_true', Bool.not_eq_false', ne_eq, List.length_cons, List.length_nil, forall_eq, Bool.false_eq_true, Bool.true_eq_false, Int.reduceToNat, Option.some.injEq, exists_eq_left', ints_asList, map_snoc, map_app, list_map, ints_nil, ints_get, ints_len, bs_get, Int.toNat_natCast, List.length_append, List.length_map, bs_length, awake_all, text_all, ht, valid_all, cells_all, same_all]
    refine ⟨fun _ => ⟨awake_pre, rfl⟩, fun h => ⟨text_pre ⟨hb, by omega⟩, fun _ => ⟨fun _ => ⟨fun _ => ⟨awake_pre, rfl⟩, fun h => absurd trivial h⟩, fun h => absurd trivial h⟩, fun h => absurd h (by decide)⟩⟩
  | some o =>
    have ht := textT_some htz
    obtain ⟨hch, hco⟩ := cells_text l.length l o (Nat.le_refl _) hb htz
    have hol := text_len l.length l o (Nat.le_refl _) htz
    have hel := encZ_len o
    have hbe : Byte (encZ o) := fun b h => encZ_byte h
    have hbu : bs (unbs (encZ o)) = encZ o := bs_unbs hbe
    have hfo : fin (encZ o) = o := by rw [fin_encZ, chZs_of hch]
    have hul := unbs_len (encZ o)
    have hval : Lib.validD (unbs (encZ o)) = true := (validD_iff _).2 ⟨o, hch, hbu⟩
    simp only [Tree.den, E.den, P1.den, P2.den, P3.den, List.map_cons, List.map_nil, List.cons_append, List.nil_append, List.getD_cons_zero, List.getD_cons_succ, List.getElem?_cons_zero, List.getElem?_cons_succ, asInt_int, asBool_bool, asStr_str, asList_list, cells_agg, TV.cell, pre_zero, pre_succ, post_zero, post_succ, decide_eq_true_eq, decide_eq_false_iff_not, beq_iff_eq, beq_eq_false_iff_ne, Bool.not_eq_true', Bool.not_eq_false', ne_eq, List.length_cons, List.length_nil, forall_eq, Bool.false_eq_true, Bool.true_eq_false, Int.reduceToNat, Option.some.injEq, exists_eq_left', awake_all, text_all, ht]
    simp only [Tree.den, E.den, P1.den, P2.den, P3.den, List.map_cons, List.map_nil, List.cons_append, List.nil_append, List.getD_cons_zero, List.getD_cons_succ, List.getElem?_cons_zero, List.getElem?_cons_succ, asInt_int, asBool_bool, asStr_str, asList_list, cells_agg, TV.cell, pre_zero, pre_succ, post_zero, post_succ, decide_eq_true_eq, decide_eq_false_iff_not, beq_iff_eq, beq_eq_false_iff_ne, Bool.not_eq_true', Bool.not_eq_false', ne_eq, List.length_cons, List.length_nil, forall_eq, Bool.false_eq_true, Bool.true_eq_false, Int.reduceToNat, Option.some.injEq, exists_eq_left', ints_asList, map_snoc, map_app, list_map, ints_nil, ints_get, ints_len, bs_get, Int.toNat_natCast, List.length_append, List.length_map, bs_length, awake_all, text_all, ht, valid_all, cells_all, same_all, hbu, hfo, hco, hval]
    refine ⟨fun _ => ⟨awake_pre, rfl⟩, fun h => ⟨text_pre ⟨hb, by omega⟩, fun h => (by simp at h), fun _ => ⟨valid_pre (by omega), fun _ => ⟨cells_pre (by omega), same_pre (by omega), fun _ => ⟨awake_pre, rfl⟩, fun h => (by simp at h)⟩, fun h => (by simp at h)⟩⟩⟩)) rfl

/-! ### The tables, laid -/
theorem rep_of_cells {W : World} {g : Nat} {ag : Bool} {cs : List CT} {T : TV} (hcs : 0 < cs.length) (hmax : T.asList.length ≤ maxLen)
    (h : ∀ i, i < T.asList.length → ∀ c (hc : c < cs.length), ∃ u, W.cell? ⟨g, i * cs.length + c, none⟩ = some u ∧ RepT (full W) cs[c] (elemCell ag (T.asList.getD i (.int 0)) c) u) :
    RepT (full W) (.slice ag cs) T (.slice (some ⟨g, 0, none⟩) T.asList.length T.asList.length) := by
  refine Reads.full (M := full W) ⟨some ⟨g, 0, none⟩, T.asList.length, (List.range (T.asList.length * cs.length)).map fun j => (W.cell? ⟨g, j, none⟩).getD undef, rfl, Nat.le_refl _, hmax, (fun h => by cases h), ⟨by simp, fun i hi c hc => ?_⟩, fun j u hu => ⟨g, 0, rfl, ?_⟩⟩ (fun _ _ h => h) hcs
  · obtain ⟨u, h1, h2⟩ := h i hi c hc
    refine ⟨u, ?_, ?_⟩
    · rw [List.getElem?_map, List.getElem?_range (idx_lt hi hc)]
      simp [h1]
    · rw [List.getD_eq_getElem?_getD, List.getElem?_eq_getElem hi] at h2
      exact h2
  · rw [List.getElem?_map] at hu
    have hj : j < T.asList.length * cs.length := by
      by_cases hj : j < T.asList.length * cs.length
      · exact hj
      · rw [List.getElem?_eq_none (by simpa using hj)] at hu; cases hu
    rw [List.getElem?_range hj] at hu
    simp only [Option.map_some, Option.some.injEq] at hu
    obtain ⟨i, c, hi, hc, rfl⟩ := idx_split hj
    obtain ⟨v, h1, _⟩ := h i hi c hc
    rw [h1] at hu
    rw [Nat.zero_add, h1, ← hu]
    rfl
theorem rep_first {W : World} (h : Lib.Utf8Tabs 1 2 W) : RepT (full W) (.slice false [.int .u8]) firstT' (.slice (some ⟨1, 0, none⟩) (firstT').asList.length (firstT').asList.length) ∧ 0 < (firstT').asList.length := by
  refine ⟨rep_of_cells (by simp) (by rw [first_len]; decide) fun i hi c hc => ?_, by rw [first_len]; decide⟩
  rw [first_len] at hi
  have : c = 0 := by simp at hc; exact hc
  subst this
  refine ⟨_, by simpa using h.1 i hi, ?_⟩
  rw [first_get hi]
  exact .int _ (.int _)
theorem rep_accept {W : World} (h : Lib.Utf8Tabs 1 2 W) : RepT (full W) (.slice true [.int .u8, .int .u8]) acceptT (.slice (some ⟨2, 0, none⟩) acceptT.asList.length acceptT.asList.length) ∧ 0 < acceptT.asList.length := by
  refine ⟨rep_of_cells (by simp) (by rw [accept_len]; decide) fun i hi c hc => ?_, by rw [accept_len]; decide⟩
  rw [accept_len] at hi
  obtain ⟨k0, k1⟩ := h.2 i hi
  rw [accept_get hi]
  rw [Nat.mul_comm] at k0 k1
  match c, hc with
  | 0, _ => exact ⟨_, k0, .int _ (.int _)⟩
  | 1, _ => exact ⟨_, k1, .int _ (.int _)⟩
  | c + 2, hc => have : c + 2 < 2 := hc; omega
set_option maxRecDepth 100000 in
theorem first_pinned : Lib.firstData = Go.Pinned.utf8First := by kernel_rfl
theorem glob_ofU {l : List (String × DataW Unit)} {W : World} (h : laidMet Tryd.prog l W) (hx : ∃ n, Tryd.prog.globalNamed n = some 0 ∧ (n, (Lib.tabData .u8 brailleZ : DataW Unit)) ∈ l)
    (h1 : ("unicode/utf8.first", Lib.firstData) ∈ l) (h2 : ("unicode/utf8.acceptRanges", Lib.acceptData) ∈ l) : GlobOk (mkEnv globT []) gtabU W := by
  have hb := glob_of h hx
  have hT : Lib.Utf8Tabs 1 2 W := utf8Tabs_of_readsT (U8Types.of196 lays_validString) ⟨by kernel_rfl, by kernel_rfl, by kernel_rfl, by kernel_rfl, by kernel_rfl, by kernel_rfl, by kernel_rfl⟩ (Lib.laidMet.reads h h1) (Lib.laidMet.reads h h2)
  intro g ag cs hg
  simp only [gtabU, List.mem_cons, List.not_mem_nil, or_false, Prod.mk.injEq] at hg
  rcases hg with ⟨rfl, rfl, rfl⟩ | ⟨rfl, rfl, rfl⟩ | ⟨rfl, rfl, rfl⟩
  · exact hb _ _ _ (by unfold gtab; simp)
  · exact rep_first hT
  · exact rep_accept hT
end Go.Proofs.YtccpepheooleoaaDoor
