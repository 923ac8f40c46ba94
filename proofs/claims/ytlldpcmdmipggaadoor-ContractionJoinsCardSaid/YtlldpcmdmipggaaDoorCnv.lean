/- The laws of layer 52 that speak of valid texts: Joins, Positions. -/
import Derived.Test.YtlldpcmdmipggaaDoorCnl
import Derived.Test.YtlldpcmdmipggaaDoorV1
import Derived.Test.YtlldpcmdmipggaaDoorVsd
namespace Go.Proofs.YtlldpcmdmipggaaDoor
set_option linter.unusedSimpArgs false
set_option linter.unusedVariables false
set_option linter.unusedSectionVars false
open Go.RowKit Go.Lib

def validL : Law := ⟨fun ts => ∃ (s : List UInt8), ts = [.str s] ∧ (s.length ≤ 9223372036854775807), fun ts z₀ => ∀ (s : List UInt8), ts = [.str s] → z₀ = .bool (Lib.validD s)⟩
theorem valid_pre {s : List UInt8} (h : s.length ≤ 9223372036854775807) : validL.pre [.str s] := ⟨s, rfl, h⟩
theorem valid_fin {s : List UInt8} {z₀ : TV} (h : z₀ = .bool (Lib.validD s)) : validL.post [.str s] z₀ := fun s₁ e => by
  simp only [List.cons.injEq, TV.str.injEq, TV.int.injEq, TV.bool.injEq, TV.agg.injEq, TV.list.injEq, ints_eq, and_true, true_and, and_assoc] at e; subst e
  exact h
theorem valid_all {s : List UInt8} {Q : TV → Prop} : (∀ z₀, validL.post [.str s] z₀ → Q z₀) ↔ Q (.bool (Lib.validD s)) := ⟨fun h => h _ (valid_fin rfl), fun h z₀ hr => by rw [hr _ rfl]; exact h⟩
theorem valid_c (k : Nat) : Contract Tryd.prog (mkEnv globT []) gtabU (sn_utf8stream_Valid k) validL.pre validL.post := Contract.env (Γ := mkEnv globT [validSL]) (contract_utf8stream_Valid (fun _ => rfl) (fun s hs => by
    simp only [cx_utf8stream_Valid, List.mem_cons, List.not_mem_nil, or_false] at hs
    rcases hs with rfl
    · exact Contract.inEnv rfl (validS_c 0) rfl) k (by
  rintro ts hl ⟨s, rfl, hp⟩
  have hfin : ∀ z₀ : TV, z₀ = .bool (Lib.validD s) → validL.post [.str s] z₀ := fun z₀ h => valid_fin h
  generalize validL.post [.str s] = R at hfin ⊢
  unfold tr_utf8stream_Valid
  simp only [Tree.den, E.den, P1.den, P2.den, P3.den, List.map_cons, List.map_nil, List.cons_append, List.nil_append, List.getD_cons_zero, List.getD_cons_succ, List.getElem?_cons_zero, List.getElem?_cons_succ, asInt_int, asBool_bool, asStr_str, asList_list, cells_agg, TV.cell, pre_zero, pre_succ, post_zero, post_succ, decide_eq_true_eq, decide_eq_false_iff_not, beq_iff_eq, beq_eq_false_iff_ne, Bool.not_eq_true', Bool.not_eq_false', ne_eq, List.length_cons, List.length_nil, forall_eq, Bool.false_eq_true, Bool.true_eq_false, Int.reduceToNat, Option.some.injEq, exists_eq_left', validS_all]
  exact ⟨validS_pre hp, hfin _ rfl⟩)) rfl
theorem runesOf {s : List UInt8} (h : validB s) : TV.list (runeList s) = ints (Go.Proofs.YtlldpcmdmipggaaDoor.fin (bs s)) := by
  obtain ⟨h1, h2, h3, h4⟩ := validB_dec h
  rw [runeList_valid h, h4]
  rfl
theorem chars_app {l m : List Int} (h : Chars l) (k : Chars m) : Chars (l ++ m) := fun n hn => by
  rcases List.mem_append.1 hn with hn | hn
  · exact h n hn
  · exact k n hn
theorem lawJoins_c (k : Nat) : Contract Tryd.prog (mkEnv globT []) gtabU (sn_law52_ContractionJoins k) (trueL strsP).pre (trueL strsP).post := Contract.env (Γ := mkEnv globT [transL, backL, lengthL, awakeL, validL]) (contract_law52_ContractionJoins (fun _ => rfl) (fun s hs => by
    simp only [cx_law52_ContractionJoins, List.mem_cons, List.not_mem_nil, or_false] at hs
    rcases hs with rfl | rfl | rfl | rfl | rfl
    · exact Contract.inEnv rfl ((trans_c 0).gt gtab_sub) rfl
    · exact Contract.inEnv rfl ((back_c 1).gt gtab_sub) rfl
    · exact Contract.inEnv rfl ((length_c 2).gt gtab_sub) rfl
    · exact Contract.inEnv rfl ((awake_c 3).gt gtab_sub) rfl
    · exact Contract.inEnv rfl (valid_c 4) rfl) k (by
  rintro ts hl ⟨a, b, rfl, _, _⟩
  unfold tr_law52_ContractionJoins
  have hfa := fin_len' a
  have hfb := fin_len' b
  have hta := trans_len (Go.Proofs.YtlldpcmdmipggaaDoor.fin (bs a))
  have htb := trans_len (Go.Proofs.YtlldpcmdmipggaaDoor.fin (bs b))
  have hba := tot_bd (Go.Proofs.YtlldpcmdmipggaaDoor.fin (bs a))
  have hbb := tot_bd (Go.Proofs.YtlldpcmdmipggaaDoor.fin (bs b))
  have hda := trans_div' (Go.Proofs.YtlldpcmdmipggaaDoor.fin (bs a))
  have hdb := trans_div' (Go.Proofs.YtlldpcmdmipggaaDoor.fin (bs b))
  have hbya := div_byte hda
  have hbyb := div_byte hdb
  simp only [Tree.den, E.den, P1.den, P2.den, P3.den, List.map_cons, List.map_nil, List.cons_append, List.nil_append, List.getD_cons_zero, List.getD_cons_succ, List.getElem?_cons_zero, List.getElem?_cons_succ, asInt_int, asBool_bool, asStr_str, asList_list, cells_agg, TV.cell, pre_zero, pre_succ, post_zero, post_succ, decide_eq_true_eq, decide_eq_false_iff_not, beq_iff_eq, beq_eq_false_iff_ne, Bool.not_eq_true', Bool.not_eq_false', ne_eq, List.length_cons, List.length_nil, forall_eq, Bool.false_eq_true, Bool.true_eq_false, Int.reduceToNat, Option.some.injEq, exists_eq_left', awake_all, valid_all, trans_all, transT]
  simp only [Tree.den, E.den, P1.den, P2.den, P3.den, List.map_cons, List.map_nil, List.cons_append, List.nil_append, List.getD_cons_zero, List.getD_cons_succ, List.getElem?_cons_zero, List.getElem?_cons_succ, asInt_int, asBool_bool, asStr_str, asList_list, cells_agg, TV.cell, pre_zero, pre_succ, post_zero, post_succ, decide_eq_true_eq, decide_eq_false_iff_not, beq_iff_eq, beq_eq_false_iff_ne, Bool.not_eq_true', Bool.not_eq_false', ne_eq, List.length_cons, List.length_nil, forall_eq, Bool.false_eq_true, Bool.true_eq_false, Int.reduceToNat, Option.some.injEq, exists_eq_left', ints_asList, map_snoc, map_app, list_map, ints_nil, ints_get, ints_len, bs_get, Int.toNat_natCast, List.length_append, List.length_map, bs_length, awake_all, valid_all, trans_all, back_all, length_all]
  refine ⟨fun _ => ⟨awake_pre, rfl⟩, fun ha => ⟨fun _ => ⟨awake_pre, rfl⟩, fun hb => ⟨valid_pre (by omega), fun _ => ⟨awake_pre, rfl⟩, fun hva => ⟨valid_pre (by omega), fun _ => ⟨awake_pre, rfl⟩, fun hvb => ⟨trans_pre (by omega), trans_pre (by omega), by omega, by omega, back_pre ⟨fun n hn => ?_, by rw [List.length_append]; omega⟩, ?_⟩⟩⟩⟩⟩
  · rcases List.mem_append.1 hn with hn | hn
    · exact hbya n hn
    · exact hbyb n hn
  obtain ⟨l, h1, h2, h3⟩ := fin_valid ((validD_iff a).1 hva)
  obtain ⟨m, h4, h5, h6⟩ := fin_valid ((validD_iff b).1 hvb)
  rw [h3] at hta hba hda hbya hfa ⊢
  rw [h6] at htb hbb hdb hbyb hfb ⊢
  have hd := div_append hda hdb
  have hbk : backT (cellsOf (transZ l) ++ cellsOf (transZ m)) = .agg [.str (a ++ b), .int 0] := by
    rw [← cellsOf_append, backT_some (back_div' hd (chars_app h1 h4)), encZ_append, ← h2, ← h5, ← bs_append, unbs_bs]
  have hfab : Go.Proofs.YtlldpcmdmipggaaDoor.fin (bs (a ++ b)) = l ++ m := by rw [bs_append, h2, h5, ← encZ_append, fin_encZ, chZs_of (chars_app h1 h4)]
  have hle := tot_append l m
  rw [hbk, hfab]
  simp only [Tree.den, E.den, P1.den, P2.den, P3.den, List.map_cons, List.map_nil, List.cons_append, List.nil_append, List.getD_cons_zero, List.getD_cons_succ, List.getElem?_cons_zero, List.getElem?_cons_succ, asInt_int, asBool_bool, asStr_str, asList_list, cells_agg, TV.cell, pre_zero, pre_succ, post_zero, post_succ, decide_eq_true_eq, decide_eq_false_iff_not, beq_iff_eq, beq_eq_false_iff_ne, Bool.not_eq_true', Bool.not_eq_false', ne_eq, List.length_cons, List.length_nil, forall_eq, Bool.false_eq_true, Bool.true_eq_false, Int.reduceToNat, Option.some.injEq, exists_eq_left', ints_asList, map_snoc, map_app, list_map, ints_nil, ints_get, ints_len, bs_get, Int.toNat_natCast, List.length_append, List.length_map, bs_length]
  have ew : IntKind.wrap .i64 (((cellsOf (transZ l)).length : Int) + ((cellsOf (transZ m)).length : Int)) = ((cellsOf (transZ l)).length : Int) + ((cellsOf (transZ m)).length : Int) := wrap_i64 (by omega) (by omega)
  rw [ew]
  have q1 := length_pre (s := a ++ b) (by rw [List.length_append]; omega)
  have w1 : ((totZ (l ++ m) : Nat) : Int) ≤ ((cellsOf (transZ l)).length : Int) + ((cellsOf (transZ m)).length : Int) := by omega
  repeat' (first
    | exact awake_pre
    | exact rfl
    | exact q1
    | omega
    | (refine ⟨fun _ => ?_, fun h => (by first | (exact absurd w1 h) | (exact absurd rfl h) | (exact absurd trivial h))⟩)
    | (refine ⟨?_, ?_⟩)))) rfl
theorem glob_ofU {l : List (String × DataW Unit)} {W : World} (h : laidMet Tryd.prog l W) (hx : ∃ n, Tryd.prog.globalNamed n = some 0 ∧ (n, (Lib.tabData .u8 brailleZ : DataW Unit)) ∈ l)
    (h1 : ("unicode/utf8.first", Lib.firstData) ∈ l) (h2 : ("unicode/utf8.acceptRanges", Lib.acceptData) ∈ l) : GlobOk (mkEnv globT []) gtabU W := by
  have hb := glob_of h hx
  have hT := tabs_of h h1 h2
  intro g ag cs hg
  simp only [gtabU, List.mem_cons, List.not_mem_nil, or_false, Prod.mk.injEq] at hg
  rcases hg with ⟨rfl, rfl, rfl⟩ | ⟨rfl, rfl, rfl⟩ | ⟨rfl, rfl, rfl⟩
  · exact hb _ _ _ (by unfold gtab; simp)
  · exact rep_first hT
  · exact rep_accept hT
theorem fromZ_head {i n : Nat} {c : List Int} {us : List (Nat × List Int)} (h : 1 ≤ c.length) : (fromZ i ((n, c) :: us)).getD 0 0 = (i : Int) := by
  simp only [fromZ]
  cases c with
  | nil => simp at h
  | cons x c => rfl
theorem getD_dropI (l : List Int) (i j : Nat) : (l.drop i).getD j 0 = l.getD (i + j) 0 := getD_drop l i j
theorem cand_take {l : List Int} {n : Nat} {c : List Int} (h : Cand l n c) : Cand (l.take n) n c := by
  rcases h with ⟨r, m, rfl, rfl, rfl⟩ | ⟨s, hs, hb, rfl, rfl⟩
  · exact .inl ⟨r, [], rfl, rfl, rfl⟩
  · exact .inr ⟨s, hs, beg_yes (by rw [List.take_take, Nat.min_self]; exact begins_take hb), rfl, rfl⟩
theorem back_one {l : List Int} {n : Nat} {c : List Int} (hc : Chars l) (h : Cand l n c) : backZ c = some (l.take n) := by
  have := back_unit hc h []
  rw [List.append_nil, back_nil] at this
  simpa using this
def PoI (L : List Int) (xs : List TV) : Prop := ∃ i k : Nat, xs = [.int i] ∧ k ≤ L.length ∧ i ≤ (cellsOf (transZ L)).length ∧ (cellsOf (transZ L)).drop i = cellsOf (transZ (L.drop k)) ∧ (fromZ 0 (transZ L)).drop i = fromZ k (transZ (L.drop k))
def Pom (L : List Int) (xs : List TV) : Nat := (cellsOf (transZ L)).length - (xs.getD 0 (.int 0)).asInt.toNat
def PpI (i c : Nat) (xs : List TV) : Prop := ∃ j : Nat, xs = [.int ((i + j : Nat) : Int)] ∧ j ≤ c
def Ppm (i c : Nat) (xs : List TV) : Nat := i + c - (xs.getD 0 (.int 0)).asInt.toNat
theorem asBoolV (b : Bool) : (TV.bool b).asBool = b := by cases b <;> rfl
theorem lawPos_c (k : Nat) : Contract Tryd.prog (mkEnv globT []) gtabU (sn_law52_ContractionPositions k) (trueL strP).pre (trueL strP).post := Contract.env (Γ := mkEnv globT [encL, transL, backL, awakeL, validL]) (contract_law52_ContractionPositions (fun _ => rfl) (fun s hs => by
    simp only [cx_law52_ContractionPositions, List.mem_cons, List.not_mem_nil, or_false] at hs
    rcases hs with rfl | rfl | rfl | rfl | rfl
    · exact Contract.inEnv rfl ((enc_c 0).gt gtab_sub) rfl
    · exact Contract.inEnv rfl ((trans_c 1).gt gtab_sub) rfl
    · exact Contract.inEnv rfl ((back_c 2).gt gtab_sub) rfl
    · exact Contract.inEnv rfl ((awake_c 3).gt gtab_sub) rfl
    · exact Contract.inEnv rfl (valid_c 4) rfl) k (by
  rintro ts hl ⟨s, rfl, _⟩
  unfold tr_law52_ContractionPositions
  by_cases hv : validB s
  · have hvt := (validD_iff s).2 hv
    have hrl := runesOf hv
    have hfl := fin_len' s
    have hch := fin_chars s
    have htl := trans_len (Go.Proofs.YtlldpcmdmipggaaDoor.fin (bs s))
    have htb := tot_bd (Go.Proofs.YtlldpcmdmipggaaDoor.fin (bs s))
    have hfz := fromZ_len (transZ (Go.Proofs.YtlldpcmdmipggaaDoor.fin (bs s))) 0
    have hby := div_byte (trans_div' (Go.Proofs.YtlldpcmdmipggaaDoor.fin (bs s)))
    simp only [Tree.den, E.den, P1.den, P2.den, P3.den, List.map_cons, List.map_nil, List.cons_append, List.nil_append, List.getD_cons_zero, List.getD_cons_succ, List.getElem?_cons_zero, List.getElem?_cons_succ, asInt_int, asBool_bool, asStr_str, asList_list, cells_agg, TV.cell, pre_zero, pre_succ, post_zero, post_succ, decide_eq_true_eq, decide_eq_false_iff_not, beq_iff_eq, beq_eq_false_iff_ne, Bool.not_eq_true', Bool.not_eq_false', ne_eq, List.length_cons, List.length_nil, forall_eq, Bool.false_eq_true, Bool.true_eq_false, Int.reduceToNat, Option.some.injEq, exists_eq_left', awake_all, valid_all, hvt, trans_all, transT, hrl]
    simp only [Tree.den, E.den, P1.den, P2.den, P3.den, List.map_cons, List.map_nil, List.cons_append, List.nil_append, List.getD_cons_zero, List.getD_cons_succ, List.getElem?_cons_zero, List.getElem?_cons_succ, asInt_int, asBool_bool, asStr_str, asList_list, cells_agg, TV.cell, pre_zero, pre_succ, post_zero, post_succ, decide_eq_true_eq, decide_eq_false_iff_not, beq_iff_eq, beq_eq_false_iff_ne, Bool.not_eq_true', Bool.not_eq_false', ne_eq, List.length_cons, List.length_nil, forall_eq, Bool.false_eq_true, Bool.true_eq_false, Int.reduceToNat, Option.some.injEq, exists_eq_left', ints_asList, map_snoc, map_app, list_map, ints_nil, ints_get, ints_len, bs_get, Int.toNat_natCast, List.length_append, List.length_map, bs_length, awake_all, hrl]
    generalize hL : Go.Proofs.YtlldpcmdmipggaaDoor.fin (bs s) = L at *
    have hA0 : 0 < (fromZ 0 (transZ L)).length → (fromZ 0 (transZ L)).getD 0 0 = 0 := by
      intro h
      cases L with
      | nil => simp [trans_nil, fromZ] at h
      | cons r m => rw [trans_cons]; exact fromZ_head (best_size r m).2.2.2.1
    have hLz : (L.length : Int) = 0 ↔ ((cellsOf (transZ L)).length : Int) = 0 := by
      cases L with
      | nil => simp [trans_nil, cellsOf]
      | cons r m =>
        rw [trans_cons, cellsOf_cons, List.length_append, List.length_cons]
        have := (best_size r m).2.2.2.1
        constructor <;> intro h <;> omega
    have hbeq : ((L.length : Int) == 0) = (((cellsOf (transZ L)).length : Int) == 0) := by rw [Bool.eq_iff_iff, beq_iff_eq, beq_iff_eq]; exact hLz
    refine ⟨fun _ => ⟨awake_pre, rfl⟩, fun ha => ⟨valid_pre (by omega), fun h => h.elim, fun _ => ⟨trans_pre (by omega), by omega, fun h => by omega, fun _ => ⟨fun h => absurd hbeq h, fun _ => ⟨fun hpos => ⟨by omega, fun h => absurd (hA0 (by omega)) h, fun _ => ?_⟩, fun hz => ?_⟩⟩⟩⟩⟩
    all_goals
      refine ⟨PoI L, Pom L, ⟨0, 0, rfl, by omega, by omega, by simp, by simp⟩, ?_⟩
      rintro xs _ ⟨i, k, rfl, hk, hi, hC, hA⟩
      have hD : Pom L [.int (i : Int)] = (cellsOf (transZ L)).length - i := rfl
      simp only [Tree.den, E.den, P1.den, P2.den, P3.den, List.map_cons, List.map_nil, List.cons_append, List.nil_append, List.getD_cons_zero, List.getD_cons_succ, List.getElem?_cons_zero, List.getElem?_cons_succ, asInt_int, asBool_bool, asStr_str, asList_list, cells_agg, TV.cell, pre_zero, pre_succ, post_zero, post_succ, decide_eq_true_eq, decide_eq_false_iff_not, beq_iff_eq, beq_eq_false_iff_ne, Bool.not_eq_true', Bool.not_eq_false', ne_eq, List.length_cons, List.length_nil, forall_eq, Bool.false_eq_true, Bool.true_eq_false, Int.reduceToNat, Option.some.injEq, exists_eq_left', ints_asList, map_snoc, map_app, list_map, ints_nil, ints_get, ints_len, bs_get, Int.toNat_natCast, List.length_append, List.length_map, bs_length, hD]
      refine ⟨fun hlt => ?_, fun hge => ⟨awake_pre, rfl⟩⟩
      have hlenC := congrArg List.length hC
      have hlenA := congrArg List.length hA
      rw [List.length_drop] at hlenC hlenA
      have hne : k < L.length := by
        rcases Nat.lt_or_ge k L.length with h | h
        · exact h
        · rw [List.drop_of_length_le h] at hlenC
          have h0 : (cellsOf (transZ ([] : List Int))).length = 0 := rfl
          omega
      have hd := drop_get hne
      have hs := best_size (L.getD k 0) (L.drop (k + 1))
      have htc := trans_cons (L.getD k 0) (L.drop (k + 1))
      have hcand := (best_fits (L.getD k 0) (L.drop (k + 1))).1
      rw [← hd] at hs htc hcand
      rw [List.length_drop] at hs
      rw [List.drop_drop] at htc
      generalize bestU (L.drop k) = u at *
      rw [htc, cellsOf_cons] at hC
      rw [htc] at hA
      simp only [fromZ] at hA
      have hfz2 := fromZ_len (transZ (L.drop (k + u.size))) (k + u.size)
      have hlenC := congrArg List.length hC
      rw [List.length_drop, List.length_append] at hlenC
      have hAj : ∀ j, j < u.cells.length → (fromZ 0 (transZ L)).getD (i + j) 0 = (k : Int) := fun j hj => by
        rw [← getD_drop, hA, List.getD_eq_getElem?_getD, List.getElem?_append_left (by rw [List.length_replicate]; exact hj), List.getElem?_replicate, if_pos hj]
        rfl
      have hAi := hAj 0 (by omega)
      rw [Nat.add_zero] at hAi
      have hAr : (fromZ 0 (transZ L)).getD (i + u.cells.length) 0 = (fromZ (k + u.size) (transZ (L.drop (k + u.size)))).getD 0 0 := by
        rw [← getD_drop, hA, List.getD_eq_getElem?_getD, List.getElem?_append_right (by rw [List.length_replicate]; omega), List.length_replicate, Nat.sub_self, List.getD_eq_getElem?_getD]
      have hAe : i + u.cells.length < (fromZ 0 (transZ L)).length → (fromZ 0 (transZ L)).getD (i + u.cells.length) 0 = ((k + u.size : Nat) : Int) := fun h => by
        rw [hAr]
        cases hq : L.drop (k + u.size) with
        | nil =>
          have h0 : (cellsOf (transZ ([] : List Int))).length = 0 := rfl
          rw [hq] at hlenC
          omega
        | cons r m => rw [trans_cons]; exact fromZ_head (best_size r m).2.2.2.1
      have hAn : ¬ i + u.cells.length < (fromZ 0 (transZ L)).length → k + u.size = L.length := fun h => by
        cases hq : L.drop (k + u.size) with
        | nil =>
          have := congrArg List.length hq
          rw [List.length_drop, List.length_nil] at this
          omega
        | cons r m =>
          rw [hq, trans_cons, cellsOf_cons, List.length_append] at hlenC
          have := (best_size r m).2.2.2.1
          omega
      have hgoB : PoI L [.int ((i + u.cells.length : Nat) : Int)] ∧ Pom L [.int ((i + u.cells.length : Nat) : Int)] < (cellsOf (transZ L)).length - i := by
        refine ⟨⟨i + u.cells.length, k + u.size, rfl, by omega, by omega, ?_, ?_⟩, ?_⟩
        · rw [← List.drop_drop, hC, List.drop_left]
        · rw [← List.drop_drop, hA]
          exact List.drop_left' (by rw [List.length_replicate])
        · simp only [Pom, List.getD_cons_zero, asInt_int]; omega
      have hbk : backT u.cells = .agg [.str (unbs (encZ ((L.drop k).take u.size))), .int 0] := backT_some (back_one (fun n hn => hch n (List.mem_of_mem_drop hn)) hcand)
      have hsubC : TV.list ((((cellsOf (transZ L)).map TV.int).drop i).take (i + u.cells.length - i)) = ints u.cells := by rw [ints_sub, hC, Nat.add_sub_cancel_left, List.take_left]
      have hsubL : TV.list (((L.map TV.int).drop k).take (k + u.size - k)) = ints ((L.drop k).take u.size) := by rw [ints_sub, Nat.add_sub_cancel_left]
      have q1 : backL.pre [ints u.cells] := back_pre ⟨cand_byte hcand, by omega⟩
      have q2 : encL.pre [ints ((L.drop k).take u.size)] := enc_pre ⟨fun n hn => (hch.run) n (List.mem_of_mem_drop (List.mem_of_mem_take hn)), by rw [List.length_take]; omega⟩
      refine ⟨PpI i u.cells.length, Ppm i u.cells.length, ⟨0, rfl, by omega⟩, ?_⟩
      rintro ys _ ⟨j, rfl, hj⟩
      have hE : Ppm i u.cells.length [.int ((i + j : Nat) : Int)] = i + u.cells.length - (i + j) := rfl
      have ej : IntKind.wrap .i64 (((i + j : Nat) : Int) + 1) = ((i + (j + 1) : Nat) : Int) := by rw [wrap_i64 (by omega) (by omega)]; omega
      simp only [Tree.den, E.den, P1.den, P2.den, P3.den, List.map_cons, List.map_nil, List.cons_append, List.nil_append, List.getD_cons_zero, List.getD_cons_succ, List.getElem?_cons_zero, List.getElem?_cons_succ, asInt_int, asBool_bool, asStr_str, asList_list, cells_agg, TV.cell, pre_zero, pre_succ, post_zero, post_succ, decide_eq_true_eq, decide_eq_false_iff_not, beq_iff_eq, beq_eq_false_iff_ne, Bool.not_eq_true', Bool.not_eq_false', ne_eq, List.length_cons, List.length_nil, forall_eq, Bool.false_eq_true, Bool.true_eq_false, Int.reduceToNat, Option.some.injEq, exists_eq_left', ints_asList, map_snoc, map_app, list_map, ints_nil, ints_get, ints_len, bs_get, Int.toNat_natCast, List.length_append, List.length_map, bs_length, hE, ej, hAi]
      rcases Nat.lt_or_ge j u.cells.length with hjc | hjc
      · rw [hAj j hjc]
        refine ⟨fun h => ⟨by omega, by omega, by omega, by omega, fun _ => ⟨⟨j + 1, rfl, by omega⟩, ?_⟩, fun h => absurd rfl h⟩, fun h => by omega⟩
        simp only [Ppm, List.getD_cons_zero, asInt_int]; omega
      · have hjj : j = u.cells.length := by omega
        subst hjj
        by_cases hlt2 : i + u.cells.length < (fromZ 0 (transZ L)).length
        · rw [hAe hlt2]
          have ew : IntKind.wrap .i64 (((k + u.size : Nat) : Int) - (k : Int)) = (u.size : Int) := by rw [wrap_i64 (by omega) (by omega)]; omega
          simp only [Tree.den, E.den, P1.den, P2.den, P3.den, List.map_cons, List.map_nil, List.cons_append, List.nil_append, List.getD_cons_zero, List.getD_cons_succ, List.getElem?_cons_zero, List.getElem?_cons_succ, asInt_int, asBool_bool, asStr_str, asList_list, cells_agg, TV.cell, pre_zero, pre_succ, post_zero, post_succ, decide_eq_true_eq, decide_eq_false_iff_not, beq_iff_eq, beq_eq_false_iff_ne, Bool.not_eq_true', Bool.not_eq_false', ne_eq, List.length_cons, List.length_nil, forall_eq, Bool.false_eq_true, Bool.true_eq_false, Int.reduceToNat, Option.some.injEq, exists_eq_left', ints_asList, map_snoc, map_app, list_map, ints_nil, ints_get, ints_len, bs_get, Int.toNat_natCast, List.length_append, List.length_map, bs_length, hsubC, hsubL, back_all, hbk, enc_all, ew]
          repeat' (first
            | exact hgoB
            | exact q1
            | exact q2
            | omega
            | (rename_i h; exact absurd rfl h)
            | (rename_i h; exact absurd trivial h)
            | (refine ⟨fun _ => ?_, fun _ => ?_⟩)
            | (refine ⟨?_, ?_⟩))
        · have hkn := hAn hlt2
          have ew : IntKind.wrap .i64 ((L.length : Int) - (k : Int)) = (u.size : Int) := by rw [wrap_i64 (by omega) (by omega)]; omega
          have hsubL2 : TV.list (((L.map TV.int).drop k).take (L.length - k)) = ints ((L.drop k).take u.size) := by rw [ints_sub, show L.length - k = u.size by omega]
          simp only [Tree.den, E.den, P1.den, P2.den, P3.den, List.map_cons, List.map_nil, List.cons_append, List.nil_append, List.getD_cons_zero, List.getD_cons_succ, List.getElem?_cons_zero, List.getElem?_cons_succ, asInt_int, asBool_bool, asStr_str, asList_list, cells_agg, TV.cell, pre_zero, pre_succ, post_zero, post_succ, decide_eq_true_eq, decide_eq_false_iff_not, beq_iff_eq, beq_eq_false_iff_ne, Bool.not_eq_true', Bool.not_eq_false', ne_eq, List.length_cons, List.length_nil, forall_eq, Bool.false_eq_true, Bool.true_eq_false, Int.reduceToNat, Option.some.injEq, exists_eq_left', ints_asList, map_snoc, map_app, list_map, ints_nil, ints_get, ints_len, bs_get, Int.toNat_natCast, List.length_append, List.length_map, bs_length, hsubC, hsubL2, back_all, hbk, enc_all, ew]
          repeat' (first
            | exact hgoB
            | exact q1
            | exact q2
            | omega
            | (rename_i h; exact absurd rfl h)
            | (rename_i h; exact absurd trivial h)
            | (refine ⟨fun _ => ?_, fun _ => ?_⟩)
            | (refine ⟨?_, ?_⟩))
  · have hvf : Lib.validD s = false := by
      cases h : Lib.validD s with
      | false => rfl
      | true => exact absurd ((validD_iff s).1 h) hv
    simp only [Tree.den, E.den, P1.den, P2.den, P3.den, List.map_cons, List.map_nil, List.cons_append, List.nil_append, List.getD_cons_zero, List.getD_cons_succ, List.getElem?_cons_zero, List.getElem?_cons_succ, asInt_int, asBool_bool, asStr_str, asList_list, cells_agg, TV.cell, pre_zero, pre_succ, post_zero, post_succ, decide_eq_true_eq, decide_eq_false_iff_not, beq_iff_eq, beq_eq_false_iff_ne, Bool.not_eq_true', Bool.not_eq_false', ne_eq, List.length_cons, List.length_nil, forall_eq, Bool.false_eq_true, Bool.true_eq_false, Int.reduceToNat, Option.some.injEq, exists_eq_left', awake_all, valid_all, hvf]
    simp only [Tree.den, E.den, P1.den, P2.den, P3.den, List.map_cons, List.map_nil, List.cons_append, List.nil_append, List.getD_cons_zero, List.getD_cons_succ, List.getElem?_cons_zero, List.getElem?_cons_succ, asInt_int, asBool_bool, asStr_str, asList_list, cells_agg, TV.cell, pre_zero, pre_succ, post_zero, post_succ, decide_eq_true_eq, decide_eq_false_iff_not, beq_iff_eq, beq_eq_false_iff_ne, Bool.not_eq_true', Bool.not_eq_false', ne_eq, List.length_cons, List.length_nil, forall_eq, Bool.false_eq_true, Bool.true_eq_false, Int.reduceToNat, Option.some.injEq, exists_eq_left', ints_asList, map_snoc, map_app, list_map, ints_nil, ints_get, ints_len, bs_get, Int.toNat_natCast, List.length_append, List.length_map, bs_length, awake_all]
    exact ⟨fun _ => ⟨awake_pre, rfl⟩, fun h => ⟨valid_pre (by omega), fun _ => ⟨awake_pre, rfl⟩, fun h => absurd h (by simp)⟩⟩)) rfl
end Go.Proofs.YtlldpcmdmipggaaDoor
