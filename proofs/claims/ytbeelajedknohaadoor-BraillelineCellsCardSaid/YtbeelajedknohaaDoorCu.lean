/- The contracts of the reference's Characters, one, Cells. -/
import Derived.Test.YtbeelajedknohaaDoorCr
namespace Go.Proofs.YtbeelajedknohaaDoor
set_option linter.unusedSimpArgs false
set_option linter.unusedVariables false
set_option linter.unusedSectionVars false

def charsL : Law := ⟨fun ts => ∃ s, ts = [.str s] ∧ s.length ≤ 1000000, fun ts x => ∀ s, ts = [.str s] → x = ints (Go.Proofs.YtbeelajedknohaaDoor.fin (bs s))⟩
theorem chars_pre {s : List UInt8} (h : s.length ≤ 1000000) : charsL.pre [.str s] := ⟨s, rfl, h⟩
theorem chars_all {p : List UInt8} {Q : TV → Prop} : (∀ r, charsL.post [.str p] r → Q r) ↔ Q (ints (Go.Proofs.YtbeelajedknohaaDoor.fin (bs p))) :=
  ⟨fun h => h _ fun p' e => by simp only [List.cons.injEq, TV.str.injEq, and_true] at e; rw [e], fun h r hr => by rw [hr p rfl]; exact h⟩
theorem refChars_c (k : Nat) : Contract Tryd.prog (mkEnv globT []) gtab (sn_ref51_Characters k) charsL.pre charsL.post := Contract.env (Γ := mkEnv globT [decodeL, finishL]) (contract_ref51_Characters (fun _ => rfl) (fun s hs => by
    simp only [cx_ref51_Characters, List.mem_cons, List.not_mem_nil, or_false] at hs
    rcases hs with rfl | rfl
    · exact Contract.inEnv rfl (refDecode_c 0) rfl
    · exact Contract.inEnv rfl (refFinish_c 1) rfl) k (by
  rintro ts hl ⟨s, rfl, hsz⟩
  have fin : ∀ r : TV, r = ints (Go.Proofs.YtbeelajedknohaaDoor.fin (bs s)) → charsL.post [.str s] r := fun r hr p' e => by
    simp only [List.cons.injEq, TV.str.injEq, and_true] at e
    subst e
    exact hr
  generalize charsL.post [.str s] = R at fin ⊢
  unfold tr_ref51_Characters
  have hrest := bs_rest s
  simp only [Tree.den, E.den, P1.den, P2.den, P3.den, List.map_cons, List.map_nil, List.cons_append, List.nil_append, List.getD_cons_zero, List.getD_cons_succ, List.getElem?_cons_zero, List.getElem?_cons_succ, asInt_int, asBool_bool, asStr_str, asList_list, cells_agg, TV.cell, pre_zero, pre_succ, post_zero, post_succ, decide_eq_true_eq, decide_eq_false_iff_not, beq_iff_eq, beq_eq_false_iff_ne, Bool.not_eq_true', Bool.not_eq_false', ne_eq, List.length_cons, List.length_nil, forall_eq, Bool.false_eq_true, Bool.true_eq_false, Int.reduceToNat, Option.some.injEq, exists_eq_left', decode_all, finish_all, decT]
  simp only [Tree.den, E.den, P1.den, P2.den, P3.den, List.map_cons, List.map_nil, List.cons_append, List.nil_append, List.getD_cons_zero, List.getD_cons_succ, List.getElem?_cons_zero, List.getElem?_cons_succ, asInt_int, asBool_bool, asStr_str, asList_list, cells_agg, TV.cell, pre_zero, pre_succ, post_zero, post_succ, decide_eq_true_eq, decide_eq_false_iff_not, beq_iff_eq, beq_eq_false_iff_ne, Bool.not_eq_true', Bool.not_eq_false', ne_eq, List.length_cons, List.length_nil, forall_eq, Bool.false_eq_true, Bool.true_eq_false, Int.reduceToNat, Option.some.injEq, exists_eq_left', ints_asList, map_snoc, map_app, list_map, ints_nil, ints_get, ints_len, bs_get, Int.toNat_natCast, List.length_append, List.length_map, bs_length, finish_all, hrest, ← fin_split]
  have hlen := fin_len (bs s)
  have hsl := bs_length s
  have hdl := dec_len (bs s)
  have hul := unbs_len (dec (bs s)).2
  exact ⟨decode_pre (by rw [List.length_nil]; omega), finish_pre (by omega), by omega, fin _ rfl⟩)) rfl

def oneL : Law := ⟨fun ts => ∃ r, ts = [.int r] ∧ 0 ≤ r ∧ r ≤ 1114111, fun ts x => ∀ r, ts = [.int r] → x = ints (oneZ r)⟩
theorem one_pre {r : Int} (h : 0 ≤ r) (k : r ≤ 1114111) : oneL.pre [.int r] := ⟨r, rfl, h, k⟩
theorem one_all {r : Int} {Q : TV → Prop} : (∀ x, oneL.post [.int r] x → Q x) ↔ Q (ints (oneZ r)) :=
  ⟨fun h => h _ fun b' e => by simp only [List.cons.injEq, TV.int.injEq, and_true] at e; rw [e], fun h x hx => by rw [hx r rfl]; exact h⟩
def pw (k : Nat) : Nat := if k < 6 then 2 ^ (20 - 4 * k) else 0
theorem pw_next {k : Nat} (h : k < 6) : IntKind.wrap .i32 ((pw k : Int).tdiv 16) = (pw (k + 1) : Nat) := by
  have key : ∀ k : Fin 6, IntKind.wrap .i32 ((pw k.val : Int).tdiv 16) = (pw (k.val + 1) : Nat) := by decide +kernel
  have h2 := key ⟨k, h⟩
  dsimp only at h2
  exact h2
theorem pw_lt {k : Nat} (h : k < 6) : pw (k + 1) < pw k := by
  have key : ∀ k : Fin 6, pw (k.val + 1) < pw k.val := by decide +kernel
  have h2 := key ⟨k, h⟩
  dsimp only at h2
  exact h2
def OI (r : Int) (xs : List TV) : Prop := ∃ k : Nat, xs = [.int (pw k), ints (255 :: (hexL r).take k)] ∧ k ≤ 6
def Om (xs : List TV) : Nat := (xs.getD 0 (.int 0)).asInt.toNat
theorem refOne_c (k : Nat) : Contract Tryd.prog (mkEnv globT []) gtab (sn_ref51_one k) oneL.pre oneL.post := Contract.env (Γ := mkEnv globT [cellL]) (contract_ref51_one (fun _ => rfl) (fun s hs => by
    simp only [cx_ref51_one, List.mem_singleton] at hs
    subst hs
    exact Contract.inEnv rfl (refCell_c 0) rfl) k (by
  rintro ts hl ⟨r, rfl, h0, h1⟩
  have fin : ∀ x : TV, x = ints (oneZ r) → oneL.post [.int r] x := fun x hr b' e => by
    simp only [List.cons.injEq, TV.int.injEq, and_true] at e
    subst e
    exact hr
  generalize oneL.post [.int r] = R at fin ⊢
  unfold tr_ref51_one
  have l1 : ∀ z : Int, TV.list [.int z] = ints [z] := fun _ => rfl
  simp only [Tree.den, E.den, P1.den, P2.den, P3.den, List.map_cons, List.map_nil, List.cons_append, List.nil_append, List.getD_cons_zero, List.getD_cons_succ, List.getElem?_cons_zero, List.getElem?_cons_succ, asInt_int, asBool_bool, asStr_str, asList_list, cells_agg, TV.cell, pre_zero, pre_succ, post_zero, post_succ, decide_eq_true_eq, decide_eq_false_iff_not, beq_iff_eq, beq_eq_false_iff_ne, Bool.not_eq_true', Bool.not_eq_false', ne_eq, List.length_cons, List.length_nil, forall_eq, Bool.false_eq_true, Bool.true_eq_false, Int.reduceToNat, Option.some.injEq, exists_eq_left', cell_all, pairT]
  simp only [Tree.den, E.den, P1.den, P2.den, P3.den, List.map_cons, List.map_nil, List.cons_append, List.nil_append, List.getD_cons_zero, List.getD_cons_succ, List.getElem?_cons_zero, List.getElem?_cons_succ, asInt_int, asBool_bool, asStr_str, asList_list, cells_agg, TV.cell, pre_zero, pre_succ, post_zero, post_succ, decide_eq_true_eq, decide_eq_false_iff_not, beq_iff_eq, beq_eq_false_iff_ne, Bool.not_eq_true', Bool.not_eq_false', ne_eq, List.length_cons, List.length_nil, forall_eq, Bool.false_eq_true, Bool.true_eq_false, Int.reduceToNat, Option.some.injEq, exists_eq_left', ints_asList, map_snoc, map_app, list_map, ints_nil, ints_get, ints_len, bs_get, Int.toNat_natCast, List.length_append, List.length_map, bs_length, cell_all, pairT, l1]
  refine ⟨cell_pre (by omega) (by omega), fun h => fin _ (by unfold oneZ; rw [if_pos h]), fun h => ⟨OI r, Om, ⟨0, rfl, by omega⟩, ?_⟩⟩
  rintro xs _ ⟨i, rfl, hi⟩
  have hD : ∀ o, Om [.int (pw i : Int), o] = pw i := fun o => rfl
  simp only [Tree.den, E.den, P1.den, P2.den, P3.den, List.map_cons, List.map_nil, List.cons_append, List.nil_append, List.getD_cons_zero, List.getD_cons_succ, List.getElem?_cons_zero, List.getElem?_cons_succ, asInt_int, asBool_bool, asStr_str, asList_list, cells_agg, TV.cell, pre_zero, pre_succ, post_zero, post_succ, decide_eq_true_eq, decide_eq_false_iff_not, beq_iff_eq, beq_eq_false_iff_ne, Bool.not_eq_true', Bool.not_eq_false', ne_eq, List.length_cons, List.length_nil, forall_eq, Bool.false_eq_true, Bool.true_eq_false, Int.reduceToNat, Option.some.injEq, exists_eq_left', ints_asList, map_snoc, map_app, list_map, ints_nil, ints_get, ints_len, bs_get, Int.toNat_natCast, List.length_append, List.length_map, bs_length, hD, cell_all, pairT]
  refine ⟨fun hlt => ?_, fun hlt => ?_⟩
  · have hi6 : i < 6 := by
      rcases Nat.lt_or_ge i 6 with h | h
      · exact h
      · unfold pw at hlt; rw [if_neg (by omega)] at hlt; omega
    have hpw : pw i = 2 ^ (20 - 4 * i) := by unfold pw; rw [if_pos hi6]
    have hq : r.tdiv (pw i : Int) = r / (2 ^ (20 - 4 * i) : Nat) := by rw [Int.tdiv_eq_ediv_of_nonneg h0, hpw]
    have hq0 : 0 ≤ r / (2 ^ (20 - 4 * i) : Nat) := Int.ediv_nonneg h0 (by exact Int.le_of_lt (by exact_mod_cast Nat.two_pow_pos _))
    have hq1 := Int.ediv_le_self (((2 ^ (20 - 4 * i) : Nat)) : Int) h0
    have hd : (IntKind.wrap .i32 (r.tdiv (pw i : Int))).tmod 16 = r / (2 ^ (20 - 4 * i) : Nat) % 16 := by
      rw [hq, wrap_i32 (n := r / (2 ^ (20 - 4 * i) : Nat)) (by omega) (by omega), Int.tmod_eq_emod_of_nonneg hq0]
    rw [hd, pw_next hi6]
    have hg := hexL_get (r := r) hi6
    have hd0 := Int.emod_nonneg (r / (2 ^ (20 - 4 * i) : Nat)) (b := 16) (by omega)
    have hd1 := Int.emod_lt_of_pos (r / (2 ^ (20 - 4 * i) : Nat)) (b := 16) (by omega)
    generalize r / (2 ^ (20 - 4 * i) : Nat) % 16 = d at *
    have hdg := digits_get hd0 hd1
    have hdb := hexZ_bd hd0 hd1
    rw [bs_get] at hdg
    unfold digitsB at hdg
    rw [hdg, wrap_i32 (n := hexZ d) (by omega) (by omega)]
    have hll : (hexL r).length = 6 := rfl
    have hts := take_snoc (l := hexL r) (k := i) (by omega)
    refine ⟨by omega, by omega, by omega, cell_pre (by omega) (by omega), by simp; omega, ⟨i + 1, ?_, by omega⟩, ?_⟩
    · rw [hts, hg]; simp [ints]
    · have := pw_lt hi6
      simp only [Om, List.getD_cons_zero, asInt_int]; omega
  · have : i = 6 := by
      rcases Nat.lt_or_ge i 6 with h | h
      · have := pw_lt h; omega
      · omega
    subst this
    refine fin _ ?_
    unfold oneZ
    rw [if_neg (by rw [h]; decide), esc_hex]
    rfl)) rfl
theorem refCells_c (k : Nat) : Contract Tryd.prog (mkEnv globT []) gtab (sn_ref51_Cells k) cellsL.pre cellsL.post := Contract.env (Γ := mkEnv globT [charsL, oneL]) (contract_ref51_Cells (fun _ => rfl) (fun s hs => by
    simp only [cx_ref51_Cells, List.mem_cons, List.not_mem_nil, or_false] at hs
    rcases hs with rfl | rfl
    · exact Contract.inEnv rfl (refChars_c 0) rfl
    · exact Contract.inEnv rfl (refOne_c 1) rfl) k (by
  rintro ts hl ⟨s, rfl, hsz⟩
  have fin : ∀ r : TV, r = ints (cellsZ (Go.Proofs.YtbeelajedknohaaDoor.fin (bs s))) → cellsL.post [.str s] r := fun r hr p' e => by
    simp only [List.cons.injEq, TV.str.injEq, and_true] at e
    subst e
    exact hr
  generalize cellsL.post [.str s] = R at fin ⊢
  unfold tr_ref51_Cells
  simp only [Tree.den, E.den, P1.den, P2.den, P3.den, List.map_cons, List.map_nil, List.cons_append, List.nil_append, List.getD_cons_zero, List.getD_cons_succ, List.getElem?_cons_zero, List.getElem?_cons_succ, asInt_int, asBool_bool, asStr_str, asList_list, cells_agg, TV.cell, pre_zero, pre_succ, post_zero, post_succ, decide_eq_true_eq, decide_eq_false_iff_not, beq_iff_eq, beq_eq_false_iff_ne, Bool.not_eq_true', Bool.not_eq_false', ne_eq, List.length_cons, List.length_nil, forall_eq, Bool.false_eq_true, Bool.true_eq_false, Int.reduceToNat, Option.some.injEq, exists_eq_left', chars_all]
  simp only [Tree.den, E.den, P1.den, P2.den, P3.den, List.map_cons, List.map_nil, List.cons_append, List.nil_append, List.getD_cons_zero, List.getD_cons_succ, List.getElem?_cons_zero, List.getElem?_cons_succ, asInt_int, asBool_bool, asStr_str, asList_list, cells_agg, TV.cell, pre_zero, pre_succ, post_zero, post_succ, decide_eq_true_eq, decide_eq_false_iff_not, beq_iff_eq, beq_eq_false_iff_ne, Bool.not_eq_true', Bool.not_eq_false', ne_eq, List.length_cons, List.length_nil, forall_eq, Bool.false_eq_true, Bool.true_eq_false, Int.reduceToNat, Option.some.injEq, exists_eq_left', ints_asList, map_snoc, map_app, list_map, ints_nil, ints_get, ints_len, bs_get, Int.toNat_natCast, List.length_append, List.length_map, bs_length]
  have hlen := fin_len (bs s)
  have hsl := bs_length s
  have hin := inR_fin (byte_of_bs s)
  generalize hl' : Go.Proofs.YtbeelajedknohaaDoor.fin (bs s) = l at *
  refine ⟨chars_pre hsz, CI l, Cm l, ⟨0, rfl, by omega⟩, ?_⟩
  rintro xs _ ⟨k, rfl, hk⟩
  have hD : ∀ o, Cm l [.int (k : Int), o] = l.length - k := fun o => rfl
  have hcl := cellsZ_len (l.take k)
  have htl := List.length_take_le k l
  simp only [Tree.den, E.den, P1.den, P2.den, P3.den, List.map_cons, List.map_nil, List.cons_append, List.nil_append, List.getD_cons_zero, List.getD_cons_succ, List.getElem?_cons_zero, List.getElem?_cons_succ, asInt_int, asBool_bool, asStr_str, asList_list, cells_agg, TV.cell, pre_zero, pre_succ, post_zero, post_succ, decide_eq_true_eq, decide_eq_false_iff_not, beq_iff_eq, beq_eq_false_iff_ne, Bool.not_eq_true', Bool.not_eq_false', ne_eq, List.length_cons, List.length_nil, forall_eq, Bool.false_eq_true, Bool.true_eq_false, Int.reduceToNat, Option.some.injEq, exists_eq_left', ints_asList, map_snoc, map_app, list_map, ints_nil, ints_get, ints_len, bs_get, Int.toNat_natCast, List.length_append, List.length_map, bs_length, hD, one_all]
  have e64 : IntKind.wrap .i64 ((k : Int) + 1) = ((k + 1 : Nat) : Int) := by rw [wrap_i64 (n := (k : Int) + 1) (by omega) (by omega)]; omega
  refine ⟨fun hlt => ⟨by omega, by omega, ?_⟩, fun hlt => ?_⟩
  · have hkl : k < l.length := by omega
    have hr := hin (l.getD k 0) (by rw [List.getD_eq_getElem?_getD, List.getElem?_eq_getElem hkl]; exact List.getElem_mem hkl)
    have hs := take_snoc hkl
    have hone := oneZ_len (l.getD k 0)
    generalize hrr : l.getD k 0 = r at *
    rw [e64]
    refine ⟨one_pre hr.1 hr.2, by omega, ⟨k + 1, by rw [hs, cellsZ_snoc], by omega⟩, ?_⟩
    simp only [Cm, List.getD_cons_zero, asInt_int]; omega
  · have : k = l.length := by omega
    subst this
    rw [List.take_of_length_le (Nat.le_refl _)]
    exact fin _ rfl)) rfl
end Go.Proofs.YtbeelajedknohaaDoor
