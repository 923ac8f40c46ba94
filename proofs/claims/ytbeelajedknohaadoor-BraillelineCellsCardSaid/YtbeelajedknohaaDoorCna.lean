/- The contracts of package contraction and of its reference: the small functions. -/
import Derived.Test.YtbeelajedknohaaDoorCtr
import Derived.Test.YtbeelajedknohaaDoorR1
namespace Go.Proofs.YtbeelajedknohaaDoor
set_option linter.unusedSimpArgs false
set_option linter.unusedVariables false
set_option linter.unusedSectionVars false

def sT (s : List UInt8 × List UInt8) : TV := .agg [.str s.1, .str s.2]
theorem sT_0 (s : List UInt8 × List UInt8) : (sT s).cell 0 = .str s.1 := rfl
theorem sT_1 (s : List UInt8 × List UInt8) : (sT s).cell 1 = .str s.2 := rfl
def signsT : TV := .list (signsB.map sT)
theorem signsT_list : signsT.asList = signsB.map sT := rfl
theorem signs_len : signsB.length = 36 := rfl
def sgn (k : Nat) : List UInt8 × List UInt8 := signsB.getD k ([], [])
theorem signs_get {k : Nat} (h : k < 36) : (signsB.map sT).getD k (.int 0) = sT (sgn k) := by
  unfold sgn
  rw [List.getD_eq_getElem?_getD, List.getElem?_map, List.getD_eq_getElem?_getD, List.getElem?_eq_getElem (by rw [signs_len]; exact h)]
  rfl
theorem sgn_mem {k : Nat} (h : k < 36) : sgn k ∈ signsB := by
  unfold sgn
  rw [List.getD_eq_getElem?_getD, List.getElem?_eq_getElem (by rw [signs_len]; exact h)]
  exact List.getElem_mem _
theorem signs_drop {k : Nat} (h : k < 36) : signsB.drop k = sgn k :: signsB.drop (k + 1) := by
  rw [List.drop_eq_getElem_cons (by rw [signs_len]; exact h)]
  unfold sgn
  rw [List.getD_eq_getElem?_getD, List.getElem?_eq_getElem (by rw [signs_len]; exact h)]
  rfl
theorem signs_take {k : Nat} (h : k < 36) : signsB.take (k + 1) = signsB.take k ++ [sgn k] := by
  rw [List.take_add_one, List.getElem?_eq_getElem (by rw [signs_len]; exact h)]
  unfold sgn
  rw [List.getD_eq_getElem?_getD, List.getElem?_eq_getElem (by rw [signs_len]; exact h)]
  rfl

def letterL : Law := ⟨fun ts => ∃ (r : Int), ts = [.int r] ∧ (-2147483648 ≤ r ∧ r ≤ 2147483647), fun ts z₀ => ∀ (r : Int), ts = [.int r] → z₀ = .str [UInt8.ofNat (cellZ r).toNat]⟩
theorem letter_pre {r : Int} (h : -2147483648 ≤ r ∧ r ≤ 2147483647) : letterL.pre [.int r] := ⟨r, rfl, h⟩
theorem letter_fin {r : Int} {z₀ : TV} (h : z₀ = .str [UInt8.ofNat (cellZ r).toNat]) : letterL.post [.int r] z₀ := fun r₁ e => by
  simp only [List.cons.injEq, TV.str.injEq, TV.int.injEq, TV.bool.injEq, TV.agg.injEq, TV.list.injEq, ints_eq, and_true, true_and, and_assoc] at e; subst e
  exact h
theorem letter_all {r : Int} {Q : TV → Prop} : (∀ z₀, letterL.post [.int r] z₀ → Q z₀) ↔ Q (.str [UInt8.ofNat (cellZ r).toNat]) := ⟨fun h => h _ (letter_fin rfl), fun h z₀ hr => by rw [hr _ rfl]; exact h⟩
theorem letter_c (k : Nat) : Contract Tryd.prog (mkEnv globT []) gtab (sn_contraction_letter k) letterL.pre letterL.post := Contract.env (Γ := mkEnv globT [cellL]) (contract_contraction_letter (fun _ => rfl) (fun s hs => by
    simp only [cx_contraction_letter, List.mem_cons, List.not_mem_nil, or_false] at hs
    rcases hs with rfl
    · exact Contract.inEnv rfl (cell_c 0) rfl) k (by
  rintro ts hl ⟨r, rfl, hp⟩
  have hfin : ∀ z₀ : TV, z₀ = .str [UInt8.ofNat (cellZ r).toNat] → letterL.post [.int r] z₀ := fun z₀ h => letter_fin h
  generalize letterL.post [.int r] = R at hfin ⊢
  unfold tr_contraction_letter
  simp only [Tree.den, E.den, P1.den, P2.den, P3.den, List.map_cons, List.map_nil, List.cons_append, List.nil_append, List.getD_cons_zero, List.getD_cons_succ, List.getElem?_cons_zero, List.getElem?_cons_succ, asInt_int, asBool_bool, asStr_str, asList_list, cells_agg, TV.cell, pre_zero, pre_succ, post_zero, post_succ, decide_eq_true_eq, decide_eq_false_iff_not, beq_iff_eq, beq_eq_false_iff_ne, Bool.not_eq_true', Bool.not_eq_false', ne_eq, List.length_cons, List.length_nil, forall_eq, Bool.false_eq_true, Bool.true_eq_false, Int.reduceToNat, Option.some.injEq, exists_eq_left', cell_all, pairT]
  exact ⟨cell_pre hp.1 hp.2, hfin _ rfl⟩)) rfl
def signsL : Law := ⟨fun ts => ts = [], fun ts z₀ => ts = [] → z₀ = signsT⟩
theorem signs_pre : signsL.pre [] := rfl
theorem signs_fin {z₀ : TV} (h : z₀ = signsT) : signsL.post [] z₀ := fun _ => h
theorem signs_all {Q : TV → Prop} : (∀ z₀, signsL.post [] z₀ → Q z₀) ↔ Q (signsT) := ⟨fun h => h _ fun _ => rfl, fun h z₀ hr => by rw [hr rfl]; exact h⟩
theorem signs_c (k : Nat) : Contract Tryd.prog (mkEnv globT []) gtab (sn_contraction_signs k) signsL.pre signsL.post := Contract.env (Γ := mkEnv globT [letterL]) (contract_contraction_signs (fun _ => rfl) (fun s hs => by
    simp only [cx_contraction_signs, List.mem_cons, List.not_mem_nil, or_false] at hs
    rcases hs with rfl
    · exact Contract.inEnv rfl (letter_c 0) rfl) k (by
  rintro ts hl rfl
  have hfin : ∀ z₀ : TV, z₀ = signsT → signsL.post [] z₀ := fun z₀ h => signs_fin h
  generalize signsL.post [] = R at hfin ⊢
  unfold tr_contraction_signs
  simp only [Tree.den, E.den, P1.den, P2.den, P3.den, List.map_cons, List.map_nil, List.cons_append, List.nil_append, List.getD_cons_zero, List.getD_cons_succ, List.getElem?_cons_zero, List.getElem?_cons_succ, asInt_int, asBool_bool, asStr_str, asList_list, cells_agg, TV.cell, pre_zero, pre_succ, post_zero, post_succ, decide_eq_true_eq, decide_eq_false_iff_not, beq_iff_eq, beq_eq_false_iff_ne, Bool.not_eq_true', Bool.not_eq_false', ne_eq, List.length_cons, List.length_nil, forall_eq, Bool.false_eq_true, Bool.true_eq_false, Int.reduceToNat, Option.some.injEq, exists_eq_left', letter_all]
  repeat' (first
    | exact hfin _ (by kernel_rfl)
    | (refine ⟨letter_pre (by omega), ?_⟩)
    | (refine ⟨by simp, ?_⟩)))) rfl
theorem hp_eq (s p : List UInt8) : ((s.take p.length) == p) = p.isPrefixOf s := by
  rw [Bool.eq_iff_iff, List.isPrefixOf_iff_prefix, List.prefix_iff_eq_take, beq_iff_eq]
  exact eq_comm
theorem hp_short {s p : List UInt8} (h : s.length < p.length) : p.isPrefixOf s = false := by
  rw [Bool.eq_false_iff]
  intro e
  have := (List.isPrefixOf_iff_prefix.1 e).length_le
  omega
def hpL : Law := ⟨fun ts => ∃ (s : List UInt8) (p : List UInt8), ts = [.str s, .str p] ∧ (s.length ≤ 9223372036854775807), fun ts z₀ => ∀ (s : List UInt8) (p : List UInt8), ts = [.str s, .str p] → z₀ = .bool (p.isPrefixOf s)⟩
theorem hp_pre {s : List UInt8} {p : List UInt8} (h : s.length ≤ 9223372036854775807) : hpL.pre [.str s, .str p] := ⟨s, p, rfl, h⟩
theorem hp_fin {s : List UInt8} {p : List UInt8} {z₀ : TV} (h : z₀ = .bool (p.isPrefixOf s)) : hpL.post [.str s, .str p] z₀ := fun s₁ p₁ e => by
  simp only [List.cons.injEq, TV.str.injEq, TV.int.injEq, TV.bool.injEq, TV.agg.injEq, TV.list.injEq, ints_eq, and_true, true_and, and_assoc] at e; obtain ⟨rfl, rfl⟩ := e
  exact h
theorem hp_all {s : List UInt8} {p : List UInt8} {Q : TV → Prop} : (∀ z₀, hpL.post [.str s, .str p] z₀ → Q z₀) ↔ Q (.bool (p.isPrefixOf s)) := ⟨fun h => h _ (hp_fin rfl), fun h z₀ hr => by rw [hr _ _ rfl]; exact h⟩
theorem hp_c (k : Nat) : Contract Tryd.prog (mkEnv globT []) gtab (sn_strings_HasPrefix k) hpL.pre hpL.post := Contract.env (Γ := mkEnv globT []) (contract_strings_HasPrefix (fun _ => rfl) (fun s hs => by
    cases hs) k (by
  rintro ts hl ⟨s, p, rfl, hp⟩
  have hfin : ∀ z₀ : TV, z₀ = .bool (p.isPrefixOf s) → hpL.post [.str s, .str p] z₀ := fun z₀ h => hp_fin h
  generalize hpL.post [.str s, .str p] = R at hfin ⊢
  unfold tr_strings_HasPrefix
  simp only [Tree.den, E.den, P1.den, P2.den, P3.den, List.map_cons, List.map_nil, List.cons_append, List.nil_append, List.getD_cons_zero, List.getD_cons_succ, List.getElem?_cons_zero, List.getElem?_cons_succ, asInt_int, asBool_bool, asStr_str, asList_list, cells_agg, TV.cell, pre_zero, pre_succ, post_zero, post_succ, decide_eq_true_eq, decide_eq_false_iff_not, beq_iff_eq, beq_eq_false_iff_ne, Bool.not_eq_true', Bool.not_eq_false', ne_eq, List.length_cons, List.length_nil, forall_eq, Bool.false_eq_true, Bool.true_eq_false, Int.reduceToNat, Option.some.injEq, exists_eq_left']
  refine ⟨fun h => ⟨by omega, by omega, hfin _ ?_⟩, fun h => hfin _ ?_⟩
  · rw [← hp_eq]
    simp
  · rw [hp_short (by omega)])) rfl
def ccharsL : Law := ⟨fun ts => ∃ (s : List UInt8), ts = [.str s] ∧ (s.length ≤ 1000000), fun ts z₀ => ∀ (s : List UInt8), ts = [.str s] → z₀ = ints (Go.Proofs.YtbeelajedknohaaDoor.fin (bs s))⟩
theorem cchars_pre {s : List UInt8} (h : s.length ≤ 1000000) : ccharsL.pre [.str s] := ⟨s, rfl, h⟩
theorem cchars_fin {s : List UInt8} {z₀ : TV} (h : z₀ = ints (Go.Proofs.YtbeelajedknohaaDoor.fin (bs s))) : ccharsL.post [.str s] z₀ := fun s₁ e => by
  simp only [List.cons.injEq, TV.str.injEq, TV.int.injEq, TV.bool.injEq, TV.agg.injEq, TV.list.injEq, ints_eq, and_true, true_and, and_assoc] at e; subst e
  exact h
theorem cchars_all {s : List UInt8} {Q : TV → Prop} : (∀ z₀, ccharsL.post [.str s] z₀ → Q z₀) ↔ Q (ints (Go.Proofs.YtbeelajedknohaaDoor.fin (bs s))) := ⟨fun h => h _ (cchars_fin rfl), fun h z₀ hr => by rw [hr _ rfl]; exact h⟩
theorem cchars_c (k : Nat) : Contract Tryd.prog (mkEnv globT []) gtab (sn_contraction_characters k) ccharsL.pre ccharsL.post := Contract.env (Γ := mkEnv globT [decodeL, finishL]) (contract_contraction_characters (fun _ => rfl) (fun s hs => by
    simp only [cx_contraction_characters, List.mem_cons, List.not_mem_nil, or_false] at hs
    rcases hs with rfl | rfl
    · exact Contract.inEnv rfl (decode_c 0) rfl
    · exact Contract.inEnv rfl (finish_c 1) rfl) k (by
  rintro ts hl ⟨s, rfl, hp⟩
  have hfin : ∀ z₀ : TV, z₀ = ints (Go.Proofs.YtbeelajedknohaaDoor.fin (bs s)) → ccharsL.post [.str s] z₀ := fun z₀ h => cchars_fin h
  generalize ccharsL.post [.str s] = R at hfin ⊢
  unfold tr_contraction_characters
  have hrest := bs_rest s
  simp only [Tree.den, E.den, P1.den, P2.den, P3.den, List.map_cons, List.map_nil, List.cons_append, List.nil_append, List.getD_cons_zero, List.getD_cons_succ, List.getElem?_cons_zero, List.getElem?_cons_succ, asInt_int, asBool_bool, asStr_str, asList_list, cells_agg, TV.cell, pre_zero, pre_succ, post_zero, post_succ, decide_eq_true_eq, decide_eq_false_iff_not, beq_iff_eq, beq_eq_false_iff_ne, Bool.not_eq_true', Bool.not_eq_false', ne_eq, List.length_cons, List.length_nil, forall_eq, Bool.false_eq_true, Bool.true_eq_false, Int.reduceToNat, Option.some.injEq, exists_eq_left', decode_all, finish_all, decT]
  simp only [Tree.den, E.den, P1.den, P2.den, P3.den, List.map_cons, List.map_nil, List.cons_append, List.nil_append, List.getD_cons_zero, List.getD_cons_succ, List.getElem?_cons_zero, List.getElem?_cons_succ, asInt_int, asBool_bool, asStr_str, asList_list, cells_agg, TV.cell, pre_zero, pre_succ, post_zero, post_succ, decide_eq_true_eq, decide_eq_false_iff_not, beq_iff_eq, beq_eq_false_iff_ne, Bool.not_eq_true', Bool.not_eq_false', ne_eq, List.length_cons, List.length_nil, forall_eq, Bool.false_eq_true, Bool.true_eq_false, Int.reduceToNat, Option.some.injEq, exists_eq_left', ints_asList, map_snoc, map_app, list_map, ints_nil, ints_get, ints_len, bs_get, Int.toNat_natCast, List.length_append, List.length_map, bs_length, finish_all, hrest, ← fin_split]
  have hlen := fin_len (bs s)
  have hsl := bs_length s
  have hdl := dec_len (bs s)
  have hul := unbs_len (dec (bs s)).2
  exact ⟨decode_pre (by rw [List.length_nil]; omega), finish_pre (by omega), by omega, hfin _ rfl⟩)) rfl
theorem one_enc (r : Int) : cellsZ (Go.Proofs.YtbeelajedknohaaDoor.fin (encZ [r])) = oneZ (chZ r) := by
  rw [fin_encZ]
  simp [cellsZ]
theorem bs_unbs_enc (l : List Int) : bs (unbs (encZ l)) = encZ l := bs_unbs fun b hb => encZ_byte hb
theorem unbs_len_eq (l : List Int) : (unbs l).length = l.length := by simp [unbs]
def aloneL : Law := ⟨fun ts => ∃ (r : Int), ts = [.int r] ∧ (-2147483648 ≤ r ∧ r ≤ 2147483647), fun ts z₀ => ∀ (r : Int), ts = [.int r] → z₀ = ints (oneZ (chZ r))⟩
theorem alone_pre {r : Int} (h : -2147483648 ≤ r ∧ r ≤ 2147483647) : aloneL.pre [.int r] := ⟨r, rfl, h⟩
theorem alone_fin {r : Int} {z₀ : TV} (h : z₀ = ints (oneZ (chZ r))) : aloneL.post [.int r] z₀ := fun r₁ e => by
  simp only [List.cons.injEq, TV.str.injEq, TV.int.injEq, TV.bool.injEq, TV.agg.injEq, TV.list.injEq, ints_eq, and_true, true_and, and_assoc] at e; subst e
  exact h
theorem alone_all {r : Int} {Q : TV → Prop} : (∀ z₀, aloneL.post [.int r] z₀ → Q z₀) ↔ Q (ints (oneZ (chZ r))) := ⟨fun h => h _ (alone_fin rfl), fun h z₀ hr => by rw [hr _ rfl]; exact h⟩
theorem alone_c (k : Nat) : Contract Tryd.prog (mkEnv globT []) gtab (sn_contraction_alone k) aloneL.pre aloneL.post := Contract.env (Γ := mkEnv globT [encL, cellsL]) (contract_contraction_alone (fun _ => rfl) (fun s hs => by
    simp only [cx_contraction_alone, List.mem_cons, List.not_mem_nil, or_false] at hs
    rcases hs with rfl | rfl
    · exact Contract.inEnv rfl (enc_c 0) rfl
    · exact Contract.inEnv rfl (progCells_c 1) rfl) k (by
  rintro ts hl ⟨r, rfl, hp⟩
  have hfin : ∀ z₀ : TV, z₀ = ints (oneZ (chZ r)) → aloneL.post [.int r] z₀ := fun z₀ h => alone_fin h
  generalize aloneL.post [.int r] = R at hfin ⊢
  unfold tr_contraction_alone
  have l1 : ∀ z : Int, TV.list [.int z] = ints [z] := fun _ => rfl
  simp only [Tree.den, E.den, P1.den, P2.den, P3.den, List.map_cons, List.map_nil, List.cons_append, List.nil_append, List.getD_cons_zero, List.getD_cons_succ, List.getElem?_cons_zero, List.getElem?_cons_succ, asInt_int, asBool_bool, asStr_str, asList_list, cells_agg, TV.cell, pre_zero, pre_succ, post_zero, post_succ, decide_eq_true_eq, decide_eq_false_iff_not, beq_iff_eq, beq_eq_false_iff_ne, Bool.not_eq_true', Bool.not_eq_false', ne_eq, List.length_cons, List.length_nil, forall_eq, Bool.false_eq_true, Bool.true_eq_false, Int.reduceToNat, Option.some.injEq, exists_eq_left', l1, enc_all, cells_all, bs_unbs_enc, one_enc]
  have h1 := encZ_len [r]
  have h2 := unbs_len_eq (encZ [r])
  simp only [List.length_singleton] at h1
  exact ⟨enc_pre ⟨fun n hn => by simp at hn; omega, by simp⟩, cells_pre (by omega), hfin _ rfl⟩)) rfl
def singleL : Law := ⟨fun ts => ∃ (r : Int), ts = [.int r] ∧ (-2147483648 ≤ r ∧ r ≤ 2147483647), fun ts z₀ => ∀ (r : Int), ts = [.int r] → z₀ = ints (oneZ (chZ r))⟩
theorem single_pre {r : Int} (h : -2147483648 ≤ r ∧ r ≤ 2147483647) : singleL.pre [.int r] := ⟨r, rfl, h⟩
theorem single_fin {r : Int} {z₀ : TV} (h : z₀ = ints (oneZ (chZ r))) : singleL.post [.int r] z₀ := fun r₁ e => by
  simp only [List.cons.injEq, TV.str.injEq, TV.int.injEq, TV.bool.injEq, TV.agg.injEq, TV.list.injEq, ints_eq, and_true, true_and, and_assoc] at e; subst e
  exact h
theorem single_all {r : Int} {Q : TV → Prop} : (∀ z₀, singleL.post [.int r] z₀ → Q z₀) ↔ Q (ints (oneZ (chZ r))) := ⟨fun h => h _ (single_fin rfl), fun h z₀ hr => by rw [hr _ rfl]; exact h⟩
theorem single_c (k : Nat) : Contract Tryd.prog (mkEnv globT []) gtab (sn_ref52_single k) singleL.pre singleL.post := Contract.env (Γ := mkEnv globT [rencL, cellsL]) (contract_ref52_single (fun _ => rfl) (fun s hs => by
    simp only [cx_ref52_single, List.mem_cons, List.not_mem_nil, or_false] at hs
    rcases hs with rfl | rfl
    · exact Contract.inEnv rfl (renc_c 0) rfl
    · exact Contract.inEnv rfl (refCells_c 1) rfl) k (by
  rintro ts hl ⟨r, rfl, hp⟩
  have hfin : ∀ z₀ : TV, z₀ = ints (oneZ (chZ r)) → singleL.post [.int r] z₀ := fun z₀ h => single_fin h
  generalize singleL.post [.int r] = R at hfin ⊢
  unfold tr_ref52_single
  have l1 : ∀ z : Int, TV.list [.int z] = ints [z] := fun _ => rfl
  simp only [Tree.den, E.den, P1.den, P2.den, P3.den, List.map_cons, List.map_nil, List.cons_append, List.nil_append, List.getD_cons_zero, List.getD_cons_succ, List.getElem?_cons_zero, List.getElem?_cons_succ, asInt_int, asBool_bool, asStr_str, asList_list, cells_agg, TV.cell, pre_zero, pre_succ, post_zero, post_succ, decide_eq_true_eq, decide_eq_false_iff_not, beq_iff_eq, beq_eq_false_iff_ne, Bool.not_eq_true', Bool.not_eq_false', ne_eq, List.length_cons, List.length_nil, forall_eq, Bool.false_eq_true, Bool.true_eq_false, Int.reduceToNat, Option.some.injEq, exists_eq_left', l1, renc_all, cells_all, bs_unbs_enc, one_enc]
  have h1 := encZ_len [r]
  have h2 := unbs_len_eq (encZ [r])
  simp only [List.length_singleton] at h1
  exact ⟨renc_pre ⟨fun n hn => by simp at hn; omega, by simp⟩, cells_pre (by omega), hfin _ rfl⟩)) rfl

/-! ### A list begins with a text -/
theorem beg_step {l : List Int} {t : List UInt8} {k : Nat} (hl : k < l.length) (ht : k < t.length) (h : l.take k = bs (t.take k)) (e : l.getD k 0 = (bs t).getD k 0) : l.take (k + 1) = bs (t.take (k + 1)) := by
  rw [take_snoc hl, h, e, bs_take, bs_take, take_snoc (by rw [bs_length]; exact ht)]
theorem beg_no {l : List Int} {t : List UInt8} {k : Nat} (hl : k < l.length) (ht : k < t.length) (e : ¬ l.getD k 0 = (bs t).getD k 0) : beginsZ l t = false := by
  rw [Bool.eq_false_iff]
  intro h
  have := begins_take h
  rw [← this, getD_take l ht] at e
  exact e rfl
theorem beg_yes {l : List Int} {t : List UInt8} (h : l.take t.length = bs t) : beginsZ l t = true := by
  unfold beginsZ
  exact List.isPrefixOf_iff_prefix.2 (List.prefix_iff_eq_take.2 (by rw [bs_length]; exact h.symm))
theorem beg_short {l : List Int} {t : List UInt8} (h : l.length < t.length) : beginsZ l t = false := by
  rw [Bool.eq_false_iff]
  intro e
  unfold beginsZ at e
  have := (List.isPrefixOf_iff_prefix.1 e).length_le
  rw [bs_length] at this
  omega
def BI (l : List Int) (t : List UInt8) (xs : List TV) : Prop := ∃ k : Nat, xs = [.int k] ∧ k ≤ t.length ∧ l.take k = bs (t.take k)
def Bm (t : List UInt8) (xs : List TV) : Nat := t.length - (xs.getD 0 (.int 0)).asInt.toNat
def beginsL : Law := ⟨fun ts => ∃ (l : List Int) (t : List UInt8), ts = [ints l, .str t] ∧ (l.length ≤ 1000000), fun ts z₀ => ∀ (l : List Int) (t : List UInt8), ts = [ints l, .str t] → z₀ = .bool (beginsZ l t)⟩
theorem begins_pre {l : List Int} {t : List UInt8} (h : l.length ≤ 1000000) : beginsL.pre [ints l, .str t] := ⟨l, t, rfl, h⟩
theorem begins_fin {l : List Int} {t : List UInt8} {z₀ : TV} (h : z₀ = .bool (beginsZ l t)) : beginsL.post [ints l, .str t] z₀ := fun l₁ t₁ e => by
  simp only [List.cons.injEq, TV.str.injEq, TV.int.injEq, TV.bool.injEq, TV.agg.injEq, TV.list.injEq, ints_eq, and_true, true_and, and_assoc] at e; obtain ⟨rfl, rfl⟩ := e
  exact h
theorem begins_all {l : List Int} {t : List UInt8} {Q : TV → Prop} : (∀ z₀, beginsL.post [ints l, .str t] z₀ → Q z₀) ↔ Q (.bool (beginsZ l t)) := ⟨fun h => h _ (begins_fin rfl), fun h z₀ hr => by rw [hr _ _ rfl]; exact h⟩
theorem begins_c (k : Nat) : Contract Tryd.prog (mkEnv globT []) gtab (sn_contraction_begins k) beginsL.pre beginsL.post := Contract.env (Γ := mkEnv globT []) (contract_contraction_begins (fun _ => rfl) (fun s hs => by
    cases hs) k (by
  rintro ts hl ⟨l, t, rfl, hp⟩
  have hfin : ∀ z₀ : TV, z₀ = .bool (beginsZ l t) → beginsL.post [ints l, .str t] z₀ := fun z₀ h => begins_fin h
  generalize beginsL.post [ints l, .str t] = R at hfin ⊢
  unfold tr_contraction_begins
  simp only [Tree.den, E.den, P1.den, P2.den, P3.den, List.map_cons, List.map_nil, List.cons_append, List.nil_append, List.getD_cons_zero, List.getD_cons_succ, List.getElem?_cons_zero, List.getElem?_cons_succ, asInt_int, asBool_bool, asStr_str, asList_list, cells_agg, TV.cell, pre_zero, pre_succ, post_zero, post_succ, decide_eq_true_eq, decide_eq_false_iff_not, beq_iff_eq, beq_eq_false_iff_ne, Bool.not_eq_true', Bool.not_eq_false', ne_eq, List.length_cons, List.length_nil, forall_eq, Bool.false_eq_true, Bool.true_eq_false, Int.reduceToNat, Option.some.injEq, exists_eq_left']
  simp only [Tree.den, E.den, P1.den, P2.den, P3.den, List.map_cons, List.map_nil, List.cons_append, List.nil_append, List.getD_cons_zero, List.getD_cons_succ, List.getElem?_cons_zero, List.getElem?_cons_succ, asInt_int, asBool_bool, asStr_str, asList_list, cells_agg, TV.cell, pre_zero, pre_succ, post_zero, post_succ, decide_eq_true_eq, decide_eq_false_iff_not, beq_iff_eq, beq_eq_false_iff_ne, Bool.not_eq_true', Bool.not_eq_false', ne_eq, List.length_cons, List.length_nil, forall_eq, Bool.false_eq_true, Bool.true_eq_false, Int.reduceToNat, Option.some.injEq, exists_eq_left', ints_asList, map_snoc, map_app, list_map, ints_nil, ints_get, ints_len, bs_get, Int.toNat_natCast, List.length_append, List.length_map, bs_length]
  refine ⟨fun h => hfin _ (by rw [beg_short (by omega)]), fun h => ⟨BI l t, Bm t, ⟨0, rfl, by omega, rfl⟩, ?_⟩⟩
  rintro xs _ ⟨k, rfl, hk, he⟩
  have hD : Bm t [.int (k : Int)] = t.length - k := rfl
  have e64 : IntKind.wrap .i64 ((k : Int) + 1) = ((k + 1 : Nat) : Int) := by rw [wrap_i64 (n := (k : Int) + 1) (by omega) (by omega)]; omega
  have hb := bs_getD t k
  simp only [Tree.den, E.den, P1.den, P2.den, P3.den, List.map_cons, List.map_nil, List.cons_append, List.nil_append, List.getD_cons_zero, List.getD_cons_succ, List.getElem?_cons_zero, List.getElem?_cons_succ, asInt_int, asBool_bool, asStr_str, asList_list, cells_agg, TV.cell, pre_zero, pre_succ, post_zero, post_succ, decide_eq_true_eq, decide_eq_false_iff_not, beq_iff_eq, beq_eq_false_iff_ne, Bool.not_eq_true', Bool.not_eq_false', ne_eq, List.length_cons, List.length_nil, forall_eq, Bool.false_eq_true, Bool.true_eq_false, Int.reduceToNat, Option.some.injEq, exists_eq_left', ints_asList, map_snoc, map_app, list_map, ints_nil, ints_get, ints_len, bs_get, Int.toNat_natCast, List.length_append, List.length_map, bs_length, hD, e64]
  rw [wrap_i32 (n := (bs t).getD k 0) (by omega) (by omega)]
  refine ⟨fun hlt => ⟨by omega, by omega, by omega, by omega, fun hne => hfin _ (by rw [beg_no (by omega) (by omega) hne]), fun heq => ⟨⟨k + 1, rfl, by omega, beg_step (by omega) (by omega) he heq⟩, ?_⟩⟩, fun hlt => hfin _ ?_⟩
  · simp only [Bm, List.getD_cons_zero, asInt_int]; omega
  · have : k = t.length := by omega
    subst this
    rw [beg_yes (by rw [he, List.take_of_length_le (Nat.le_refl _)])])) rfl
def startsL : Law := ⟨fun ts => ∃ (l : List Int) (t : List UInt8), ts = [ints l, .str t] ∧ (l.length ≤ 1000000), fun ts z₀ => ∀ (l : List Int) (t : List UInt8), ts = [ints l, .str t] → z₀ = .int (if beginsZ l t = true then (t.length : Int) else 0)⟩
theorem starts_pre {l : List Int} {t : List UInt8} (h : l.length ≤ 1000000) : startsL.pre [ints l, .str t] := ⟨l, t, rfl, h⟩
theorem starts_fin {l : List Int} {t : List UInt8} {z₀ : TV} (h : z₀ = .int (if beginsZ l t = true then (t.length : Int) else 0)) : startsL.post [ints l, .str t] z₀ := fun l₁ t₁ e => by
  simp only [List.cons.injEq, TV.str.injEq, TV.int.injEq, TV.bool.injEq, TV.agg.injEq, TV.list.injEq, ints_eq, and_true, true_and, and_assoc] at e; obtain ⟨rfl, rfl⟩ := e
  exact h
theorem starts_all {l : List Int} {t : List UInt8} {Q : TV → Prop} : (∀ z₀, startsL.post [ints l, .str t] z₀ → Q z₀) ↔ Q (.int (if beginsZ l t = true then (t.length : Int) else 0)) := ⟨fun h => h _ (starts_fin rfl), fun h z₀ hr => by rw [hr _ _ rfl]; exact h⟩
theorem starts_c (k : Nat) : Contract Tryd.prog (mkEnv globT []) gtab (sn_ref52_starts k) startsL.pre startsL.post := Contract.env (Γ := mkEnv globT []) (contract_ref52_starts (fun _ => rfl) (fun s hs => by
    cases hs) k (by
  rintro ts hl ⟨l, t, rfl, hp⟩
  have hfin : ∀ z₀ : TV, z₀ = .int (if beginsZ l t = true then (t.length : Int) else 0) → startsL.post [ints l, .str t] z₀ := fun z₀ h => starts_fin h
  generalize startsL.post [ints l, .str t] = R at hfin ⊢
  unfold tr_ref52_starts
  simp only [Tree.den, E.den, P1.den, P2.den, P3.den, List.map_cons, List.map_nil, List.cons_append, List.nil_append, List.getD_cons_zero, List.getD_cons_succ, List.getElem?_cons_zero, List.getElem?_cons_succ, asInt_int, asBool_bool, asStr_str, asList_list, cells_agg, TV.cell, pre_zero, pre_succ, post_zero, post_succ, decide_eq_true_eq, decide_eq_false_iff_not, beq_iff_eq, beq_eq_false_iff_ne, Bool.not_eq_true', Bool.not_eq_false', ne_eq, List.length_cons, List.length_nil, forall_eq, Bool.false_eq_true, Bool.true_eq_false, Int.reduceToNat, Option.some.injEq, exists_eq_left']
  simp only [Tree.den, E.den, P1.den, P2.den, P3.den, List.map_cons, List.map_nil, List.cons_append, List.nil_append, List.getD_cons_zero, List.getD_cons_succ, List.getElem?_cons_zero, List.getElem?_cons_succ, asInt_int, asBool_bool, asStr_str, asList_list, cells_agg, TV.cell, pre_zero, pre_succ, post_zero, post_succ, decide_eq_true_eq, decide_eq_false_iff_not, beq_iff_eq, beq_eq_false_iff_ne, Bool.not_eq_true', Bool.not_eq_false', ne_eq, List.length_cons, List.length_nil, forall_eq, Bool.false_eq_true, Bool.true_eq_false, Int.reduceToNat, Option.some.injEq, exists_eq_left', ints_asList, map_snoc, map_app, list_map, ints_nil, ints_get, ints_len, bs_get, Int.toNat_natCast, List.length_append, List.length_map, bs_length]
  refine ⟨fun h => hfin _ (by rw [beg_short (by omega), if_neg (by decide)]), fun h => ⟨BI l t, Bm t, ⟨0, rfl, by omega, rfl⟩, ?_⟩⟩
  rintro xs _ ⟨k, rfl, hk, he⟩
  have hD : Bm t [.int (k : Int)] = t.length - k := rfl
  have e64 : IntKind.wrap .i64 ((k : Int) + 1) = ((k + 1 : Nat) : Int) := by rw [wrap_i64 (n := (k : Int) + 1) (by omega) (by omega)]; omega
  have hb := bs_getD t k
  simp only [Tree.den, E.den, P1.den, P2.den, P3.den, List.map_cons, List.map_nil, List.cons_append, List.nil_append, List.getD_cons_zero, List.getD_cons_succ, List.getElem?_cons_zero, List.getElem?_cons_succ, asInt_int, asBool_bool, asStr_str, asList_list, cells_agg, TV.cell, pre_zero, pre_succ, post_zero, post_succ, decide_eq_true_eq, decide_eq_false_iff_not, beq_iff_eq, beq_eq_false_iff_ne, Bool.not_eq_true', Bool.not_eq_false', ne_eq, List.length_cons, List.length_nil, forall_eq, Bool.false_eq_true, Bool.true_eq_false, Int.reduceToNat, Option.some.injEq, exists_eq_left', ints_asList, map_snoc, map_app, list_map, ints_nil, ints_get, ints_len, bs_get, Int.toNat_natCast, List.length_append, List.length_map, bs_length, hD, e64]
  rw [wrap_i32 (n := (bs t).getD k 0) (by omega) (by omega)]
  refine ⟨fun hlt => ⟨by omega, by omega, by omega, by omega, fun hne => hfin _ (by rw [beg_no (by omega) (by omega) hne, if_neg (by decide)]), fun heq => ⟨⟨k + 1, rfl, by omega, beg_step (by omega) (by omega) he heq⟩, ?_⟩⟩, fun hlt => hfin _ ?_⟩
  · simp only [Bm, List.getD_cons_zero, asInt_int]; omega
  · have : k = t.length := by omega
    subst this
    rw [beg_yes (by rw [he, List.take_of_length_le (Nat.le_refl _)]), if_pos rfl])) rfl
end Go.Proofs.YtbeelajedknohaaDoor
