/- The laws of layer 52 that need no further tables: awake, plain, divide; Back, RoundTrip, Least, Prefix, Other. -/
import Derived.Test.YtlldpcmdmipggaaDoorCng
import Derived.Test.YtlldpcmdmipggaaDoorL1
import Derived.Test.YtlldpcmdmipggaaDoorCg
namespace Go.Proofs.YtlldpcmdmipggaaDoor
set_option linter.unusedSimpArgs false
set_option linter.unusedVariables false
set_option linter.unusedSectionVars false

theorem t_the : transT (Go.Proofs.YtlldpcmdmipggaaDoor.fin (bs [116, 104, 101])) = .agg [ints [174], ints [0]] := by kernel_rfl
theorem t_sting : transT (Go.Proofs.YtlldpcmdmipggaaDoor.fin (bs [115, 116, 105, 110, 103])) = .agg [ints [140, 172], ints [0, 2]] := by kernel_rfl
theorem t_action : transT (Go.Proofs.YtlldpcmdmipggaaDoor.fin (bs [65, 99, 116, 105, 111, 110])) = .agg [ints [65, 9, 176, 29], ints [0, 1, 2, 2]] := by kernel_rfl
theorem b_176 : backT [176] = .agg [.str [], .int 17] := by kernel_rfl
def awakeL : Law := ⟨fun ts => ts = [], fun ts z₀ => ts = [] → z₀ = .bool true⟩
theorem awake_pre : awakeL.pre [] := rfl
theorem awake_fin {z₀ : TV} (h : z₀ = .bool true) : awakeL.post [] z₀ := fun _ => h
theorem awake_all {Q : TV → Prop} : (∀ z₀, awakeL.post [] z₀ → Q z₀) ↔ Q (.bool true) := ⟨fun h => h _ fun _ => rfl, fun h z₀ hr => by rw [hr rfl]; exact h⟩
theorem awake_c (k : Nat) : Contract Tryd.prog (mkEnv globT []) gtab (sn_law52_awake k) awakeL.pre awakeL.post := Contract.env (Γ := mkEnv globT [transL, backL, sintL]) (contract_law52_awake (fun _ => rfl) (fun s hs => by
    simp only [cx_law52_awake, List.mem_cons, List.not_mem_nil, or_false] at hs
    rcases hs with rfl | rfl | rfl
    · exact Contract.inEnv rfl (trans_c 0) rfl
    · exact Contract.inEnv rfl (back_c 1) rfl
    · exact Contract.inEnv rfl (sint_c 2) rfl) k (by
  rintro ts hl rfl
  have hfin : ∀ z₀ : TV, z₀ = .bool true → awakeL.post [] z₀ := fun z₀ h => awake_fin h
  generalize awakeL.post [] = R at hfin ⊢
  unfold tr_law52_awake
  have l1 : TV.list [.int 176] = ints [176] := rfl
  have l2 : TV.list [.int 0, .int 2] = ints [0, 2] := rfl
  simp only [Tree.den, E.den, P1.den, P2.den, P3.den, List.map_cons, List.map_nil, List.cons_append, List.nil_append, List.getD_cons_zero, List.getD_cons_succ, List.getElem?_cons_zero, List.getElem?_cons_succ, asInt_int, asBool_bool, asStr_str, asList_list, cells_agg, TV.cell, pre_zero, pre_succ, post_zero, post_succ, decide_eq_true_eq, decide_eq_false_iff_not, beq_iff_eq, beq_eq_false_iff_ne, Bool.not_eq_true', Bool.not_eq_false', ne_eq, List.length_cons, List.length_nil, forall_eq, Bool.false_eq_true, Bool.true_eq_false, Int.reduceToNat, Option.some.injEq, exists_eq_left', l1, l2, trans_all, back_all, t_the, t_sting, t_action, b_176]
  simp only [Tree.den, E.den, P1.den, P2.den, P3.den, List.map_cons, List.map_nil, List.cons_append, List.nil_append, List.getD_cons_zero, List.getD_cons_succ, List.getElem?_cons_zero, List.getElem?_cons_succ, asInt_int, asBool_bool, asStr_str, asList_list, cells_agg, TV.cell, pre_zero, pre_succ, post_zero, post_succ, decide_eq_true_eq, decide_eq_false_iff_not, beq_iff_eq, beq_eq_false_iff_ne, Bool.not_eq_true', Bool.not_eq_false', ne_eq, List.length_cons, List.length_nil, forall_eq, Bool.false_eq_true, Bool.true_eq_false, Int.reduceToNat, Option.some.injEq, exists_eq_left', ints_asList, map_snoc, map_app, list_map, ints_nil, ints_get, ints_len, bs_get, Int.toNat_natCast, List.length_append, List.length_map, bs_length, byteOf_unbs, sint_all]
  have p1 := trans_pre (s := [116, 104, 101]) (by decide)
  have p2 := trans_pre (s := [115, 116, 105, 110, 103]) (by decide)
  have p3 := trans_pre (s := [65, 99, 116, 105, 111, 110]) (by decide)
  have p4 := back_pre (l := [176]) ⟨fun b hb => by simp at hb; omega, by simp⟩
  have p5 := sint_pre (a := [0, 2]) (b := [0, 2]) (by simp)
  refine ⟨p1, p2, p3, p4, ?_⟩
  repeat' (first
    | exact hfin _ rfl
    | exact p5
    | exact absurd rfl (by assumption)
    | (refine ⟨fun _ => ?_, fun h => absurd (by decide) h⟩)
    | (refine ⟨?_, ?_⟩)))) rfl

/-! ### Plain texts -/
def letB : List UInt8 := [101, 116, 97, 111, 105, 110, 115, 104, 114, 100, 108, 117, 99, 109, 119, 102, 103, 121, 112, 98, 32]
def plainZ (l : List Int) : List Int := l.map fun c => (bs letB).getD (c % 21).toNat 0
def Plain (l : List Int) : Prop := ∀ n ∈ l, 32 ≤ n ∧ n ≤ 122
theorem plain_plain {l : List Int} (h : Byte l) : Plain (plainZ l) := fun n hn => by
  obtain ⟨c, hc, rfl⟩ := List.mem_map.1 hn
  have hb := h c hc
  have key : ∀ i : Fin 21, 32 ≤ (bs letB).getD i.val 0 ∧ (bs letB).getD i.val 0 ≤ 122 := by decide +kernel
  exact key ⟨(c % 21).toNat, by omega⟩
theorem Plain.enc {l : List Int} (h : Plain l) : encZ l = l := by
  induction l with
  | nil => rfl
  | cons n l ih =>
    have hn := h n (by simp)
    have e1 : Lib.encodeRuneZ n = [n] := by
      unfold Lib.encodeRuneZ
      rw [if_pos (by omega)]
    show Lib.encodeRuneZ n ++ encZ l = n :: l
    rw [e1, ih fun m hm => h m (by simp [hm])]
    rfl
theorem Plain.chars {l : List Int} (h : Plain l) : Chars l := fun n hn => by
  have := h n hn
  unfold isCh
  omega
theorem Plain.byte {l : List Int} (h : Plain l) : Byte l := fun n hn => by
  have := h n hn
  omega
theorem Plain.fin {l : List Int} (h : Plain l) : Go.Proofs.YtlldpcmdmipggaaDoor.fin (bs (unbs l)) = l := by
  rw [bs_unbs h.byte]
  conv => lhs; rw [← h.enc]
  rw [fin_encZ, chZs_of h.chars]
theorem Plain.drop {l : List Int} (h : Plain l) (k : Nat) : Plain (l.drop k) := fun n hn => h n (List.mem_of_mem_drop hn)
theorem Plain.take {l : List Int} (h : Plain l) (k : Nat) : Plain (l.take k) := fun n hn => h n (List.mem_of_mem_take hn)
def PlI (l : List Int) (xs : List TV) : Prop := ∃ k : Nat, xs = [.int k, ints (plainZ (l.take k))] ∧ k ≤ l.length
def Plm (l : List Int) (xs : List TV) : Nat := l.length - (xs.getD 0 (.int 0)).asInt.toNat
def plainL : Law := ⟨fun ts => ∃ (l : List Int), ts = [ints l] ∧ (Byte l ∧ l.length ≤ 1000000), fun ts z₀ => ∀ (l : List Int), ts = [ints l] → z₀ = .str (unbs (plainZ l))⟩
theorem plain_pre {l : List Int} (h : Byte l ∧ l.length ≤ 1000000) : plainL.pre [ints l] := ⟨l, rfl, h⟩
theorem plain_fin {l : List Int} {z₀ : TV} (h : z₀ = .str (unbs (plainZ l))) : plainL.post [ints l] z₀ := fun l₁ e => by
  simp only [List.cons.injEq, TV.str.injEq, TV.int.injEq, TV.bool.injEq, TV.agg.injEq, TV.list.injEq, ints_eq, and_true, true_and, and_assoc] at e; subst e
  exact h
theorem plain_all {l : List Int} {Q : TV → Prop} : (∀ z₀, plainL.post [ints l] z₀ → Q z₀) ↔ Q (.str (unbs (plainZ l))) := ⟨fun h => h _ (plain_fin rfl), fun h z₀ hr => by rw [hr _ rfl]; exact h⟩
theorem plain_c (k : Nat) : Contract Tryd.prog (mkEnv globT []) gtab (sn_law52_plain k) plainL.pre plainL.post := Contract.env (Γ := mkEnv globT []) (contract_law52_plain (fun _ => rfl) (fun s hs => by
    cases hs) k (by
  rintro ts hl ⟨l, rfl, hp⟩
  have hfin : ∀ z₀ : TV, z₀ = .str (unbs (plainZ l)) → plainL.post [ints l] z₀ := fun z₀ h => plain_fin h
  generalize plainL.post [ints l] = R at hfin ⊢
  unfold tr_law52_plain
  obtain ⟨hb, hsz⟩ := hp
  have hlet : [101, 116, 97, 111, 105, 110, 115, 104, 114, 100, 108, 117, 99, 109, 119, 102, 103, 121, 112, 98, 32] = letB := rfl
  simp only [Tree.den, E.den, P1.den, P2.den, P3.den, List.map_cons, List.map_nil, List.cons_append, List.nil_append, List.getD_cons_zero, List.getD_cons_succ, List.getElem?_cons_zero, List.getElem?_cons_succ, asInt_int, asBool_bool, asStr_str, asList_list, cells_agg, TV.cell, pre_zero, pre_succ, post_zero, post_succ, decide_eq_true_eq, decide_eq_false_iff_not, beq_iff_eq, beq_eq_false_iff_ne, Bool.not_eq_true', Bool.not_eq_false', ne_eq, List.length_cons, List.length_nil, forall_eq, Bool.false_eq_true, Bool.true_eq_false, Int.reduceToNat, Option.some.injEq, exists_eq_left']
  simp only [Tree.den, E.den, P1.den, P2.den, P3.den, List.map_cons, List.map_nil, List.cons_append, List.nil_append, List.getD_cons_zero, List.getD_cons_succ, List.getElem?_cons_zero, List.getElem?_cons_succ, asInt_int, asBool_bool, asStr_str, asList_list, cells_agg, TV.cell, pre_zero, pre_succ, post_zero, post_succ, decide_eq_true_eq, decide_eq_false_iff_not, beq_iff_eq, beq_eq_false_iff_ne, Bool.not_eq_true', Bool.not_eq_false', ne_eq, List.length_cons, List.length_nil, forall_eq, Bool.false_eq_true, Bool.true_eq_false, Int.reduceToNat, Option.some.injEq, exists_eq_left', ints_asList, map_snoc, map_app, list_map, ints_nil, ints_get, ints_len, bs_get, Int.toNat_natCast, List.length_append, List.length_map, bs_length, hlet, byteOf_unbs]
  refine ⟨PlI l, Plm l, ⟨0, rfl, by omega⟩, ?_⟩
  rintro xs _ ⟨k, rfl, hk⟩
  have hD : ∀ z, Plm l [.int (k : Int), z] = l.length - k := fun _ => rfl
  have e64 : IntKind.wrap .i64 ((k : Int) + 1) = ((k + 1 : Nat) : Int) := by rw [wrap_i64 (n := (k : Int) + 1) (by omega) (by omega)]; omega
  have hpl : (plainZ (l.take k)).length ≤ k := by unfold plainZ; rw [List.length_map, List.length_take]; omega
  simp only [Tree.den, E.den, P1.den, P2.den, P3.den, List.map_cons, List.map_nil, List.cons_append, List.nil_append, List.getD_cons_zero, List.getD_cons_succ, List.getElem?_cons_zero, List.getElem?_cons_succ, asInt_int, asBool_bool, asStr_str, asList_list, cells_agg, TV.cell, pre_zero, pre_succ, post_zero, post_succ, decide_eq_true_eq, decide_eq_false_iff_not, beq_iff_eq, beq_eq_false_iff_ne, Bool.not_eq_true', Bool.not_eq_false', ne_eq, List.length_cons, List.length_nil, forall_eq, Bool.false_eq_true, Bool.true_eq_false, Int.reduceToNat, Option.some.injEq, exists_eq_left', ints_asList, map_snoc, map_app, list_map, ints_nil, ints_get, ints_len, bs_get, Int.toNat_natCast, List.length_append, List.length_map, bs_length, hD, e64, hlet, byteOf_unbs]
  refine ⟨fun hlt => ?_, fun hlt => hfin _ ?_⟩
  · have hc := hb.get k
    have hs := take_snoc (l := l) (k := k) (by omega)
    generalize l.getD k 0 = c at *
    have et : (IntKind.wrap .i64 c).tmod 21 = c % 21 := by rw [wrap_i64 (by omega) (by omega), Int.tmod_eq_emod_of_nonneg (by omega)]
    rw [et]
    refine ⟨by omega, by omega, by omega, by omega, by omega, ⟨k + 1, ?_, by omega⟩, ?_⟩
    · rw [hs]
      unfold plainZ
      rw [List.map_append]
      rfl
    · simp only [Plm, List.getD_cons_zero, asInt_int]; omega
  · have : k = l.length := by omega
    subst this
    rw [List.take_of_length_le (Nat.le_refl _)])) rfl
theorem cand_byte {l : List Int} {n : Nat} {c : List Int} (h : Cand l n c) : Byte c := by
  rcases h with ⟨r, m, rfl, rfl, rfl⟩ | ⟨s, hs, hb, rfl, rfl⟩
  · exact one_byte _
  · exact byte_of_bs _
theorem div_byte {l : List Int} {us : List (Nat × List Int)} (h : Div l us) : Byte (cellsOf us) := by
  induction h with
  | nil => exact fun b hb => by cases hb
  | cons h t ih =>
    rw [cellsOf_cons]
    intro b hb
    rcases List.mem_append.1 hb with hb | hb
    · exact cand_byte h b hb
    · exact ih b hb
theorem div_len {l : List Int} {us : List (Nat × List Int)} (h : Div l us) : (cellsOf us).length ≤ 7 * l.length := by
  induction h with
  | nil => simp [cellsOf]
  | @cons l n c us h t ih =>
    have := cand_len h
    rw [cellsOf_cons, List.length_append]
    rw [List.length_drop] at ih
    omega
/-- A division of a plain text, whatever it is. -/
def ldivL : Law := ⟨fun ts => ∃ (p ch : List Int), ts = [.str (unbs p), ints ch] ∧ Plain p ∧ Byte ch ∧ p.length ≤ 1000 ∧ ch.length ≤ 1000, fun ts z => ∀ (p ch : List Int), ts = [.str (unbs p), ints ch] → Plain p → ∃ us, Div p us ∧ z = ints (cellsOf us)⟩
theorem ldiv_pre {p ch : List Int} (h1 : Plain p) (h2 : Byte ch) (h3 : p.length ≤ 1000) (h4 : ch.length ≤ 1000) : ldivL.pre [.str (unbs p), ints ch] := ⟨p, ch, rfl, h1, h2, h3, h4⟩
theorem ldiv_use {p ch : List Int} (h : Plain p) {z : TV} (k : ldivL.post [.str (unbs p), ints ch] z) : ∃ us, Div p us ∧ z = ints (cellsOf us) := k p ch rfl h
def LdI (p : List Int) (xs : List TV) : Prop := ∃ (q : List Int) (us : List (Nat × List Int)) (n : Nat), xs = [.str (unbs q), .int n, ints (cellsOf us)] ∧ Plain q ∧ q.length ≤ p.length ∧ n ≤ p.length - q.length ∧ (cellsOf us).length ≤ 7 * (p.length - q.length) ∧ ∀ vs, Div q vs → Div p (us ++ vs)
def Ldm (xs : List TV) : Nat := (xs.getD 0 (.int 0)).asStr.length
def LeI (q : List Int) (xs : List TV) : Prop := ∃ (j sz : Nat) (c : List Int), xs = [.int sz, ints c, .int j] ∧ j ≤ 36 ∧ Cand q sz c
theorem begins_iff {q : List Int} (h : Byte q) (t : List UInt8) : t.isPrefixOf (unbs q) = beginsZ q t := by
  unfold beginsZ
  rw [← bs_prefix, bs_unbs h]
theorem sgn_ne {k : Nat} (h : k < 36) : (sgn k).1 ≠ [] := by
  intro e
  have := (sgn_two h).1
  rw [e] at this
  simp at this
theorem ldiv_c (k : Nat) : Contract Tryd.prog (mkEnv globT []) gtab (sn_law52_divide k) ldivL.pre ldivL.post := Contract.env (Γ := mkEnv globT [cellsL, hpL, ctabL]) (contract_law52_divide (fun _ => rfl) (fun s hs => by
    simp only [cx_law52_divide, List.mem_cons, List.not_mem_nil, or_false] at hs
    rcases hs with rfl | rfl | rfl
    · exact Contract.inEnv rfl (progCells_c 0) rfl
    · exact Contract.inEnv rfl (hp_c 1) rfl
    · exact Contract.inEnv rfl (ctab_c 2) rfl) k (by
  rintro ts hl ⟨p, ch, rfl, hpl, hch, hp1, hc1⟩
  have hfin : ∀ us, Div p us → ldivL.post [.str (unbs p), ints ch] (ints (cellsOf us)) := fun us hd p' ch' e hp' => by
    simp only [List.cons.injEq, TV.str.injEq, and_true] at e
    have : p' = p := by
      have := congrArg bs e.1
      rwa [bs_unbs hpl.byte, bs_unbs hp'.byte, eq_comm] at this
    subst this
    exact ⟨us, hd, rfl⟩
  generalize ldivL.post [.str (unbs p), ints ch] = R at hfin ⊢
  unfold tr_law52_divide
  simp only [Tree.den, E.den, P1.den, P2.den, P3.den, List.map_cons, List.map_nil, List.cons_append, List.nil_append, List.getD_cons_zero, List.getD_cons_succ, List.getElem?_cons_zero, List.getElem?_cons_succ, asInt_int, asBool_bool, asStr_str, asList_list, cells_agg, TV.cell, pre_zero, pre_succ, post_zero, post_succ, decide_eq_true_eq, decide_eq_false_iff_not, beq_iff_eq, beq_eq_false_iff_ne, Bool.not_eq_true', Bool.not_eq_false', ne_eq, List.length_cons, List.length_nil, forall_eq, Bool.false_eq_true, Bool.true_eq_false, Int.reduceToNat, Option.some.injEq, exists_eq_left', ctab_all, textsT_list, cellsT_list]
  simp only [Tree.den, E.den, P1.den, P2.den, P3.den, List.map_cons, List.map_nil, List.cons_append, List.nil_append, List.getD_cons_zero, List.getD_cons_succ, List.getElem?_cons_zero, List.getElem?_cons_succ, asInt_int, asBool_bool, asStr_str, asList_list, cells_agg, TV.cell, pre_zero, pre_succ, post_zero, post_succ, decide_eq_true_eq, decide_eq_false_iff_not, beq_iff_eq, beq_eq_false_iff_ne, Bool.not_eq_true', Bool.not_eq_false', ne_eq, List.length_cons, List.length_nil, forall_eq, Bool.false_eq_true, Bool.true_eq_false, Int.reduceToNat, Option.some.injEq, exists_eq_left', ints_asList, map_snoc, map_app, list_map, ints_nil, ints_get, ints_len, bs_get, Int.toNat_natCast, List.length_append, List.length_map, bs_length, signs_len]
  refine ⟨ctab_pre, LdI p, Ldm, ⟨p, [], 0, rfl, hpl, by omega, by omega, by simp [cellsOf], fun vs h => h⟩, ?_⟩
  rintro xs _ ⟨q, us, n, rfl, hq, hqp, hn, hcl, hdv⟩
  have hul := unbs_len_eq q
  have hD : ∀ a b, Ldm [.str (unbs q), a, b] = q.length := fun _ _ => hul
  have en : IntKind.wrap .i64 ((n : Int) + 1) = ((n + 1 : Nat) : Int) := by rw [wrap_i64 (n := (n : Int) + 1) (by omega) (by omega)]; omega
  simp only [Tree.den, E.den, P1.den, P2.den, P3.den, List.map_cons, List.map_nil, List.cons_append, List.nil_append, List.getD_cons_zero, List.getD_cons_succ, List.getElem?_cons_zero, List.getElem?_cons_succ, asInt_int, asBool_bool, asStr_str, asList_list, cells_agg, TV.cell, pre_zero, pre_succ, post_zero, post_succ, decide_eq_true_eq, decide_eq_false_iff_not, beq_iff_eq, beq_eq_false_iff_ne, Bool.not_eq_true', Bool.not_eq_false', ne_eq, List.length_cons, List.length_nil, forall_eq, Bool.false_eq_true, Bool.true_eq_false, Int.reduceToNat, Option.some.injEq, exists_eq_left', ints_asList, map_snoc, map_app, list_map, ints_nil, ints_get, ints_len, bs_get, Int.toNat_natCast, List.length_append, List.length_map, bs_length, hD, en, List.drop_zero, Nat.sub_zero, unbs_take, cells_all, (hq.take 1).fin]
  refine ⟨fun hne => ?_, fun hnil => ?_⟩
  · have hpos : 0 < q.length := by
      rcases Nat.eq_zero_or_pos q.length with h | h
      · rw [List.eq_nil_of_length_eq_zero h] at hne
        exact absurd rfl hne
      · exact h
    have hqc := drop_get hpos
    rw [List.drop_zero, Nat.zero_add] at hqc
    generalize q.getD 0 0 = r at *
    have hq1 : q.take 1 = [r] := by rw [hqc]; rfl
    have hr := hq r (by rw [hqc]; simp)
    have hch1 : chZ r = r := chZ_of (by unfold isCh; omega)
    have hone : cellsZ [r] = oneZ r := by simp [cellsZ]
    rw [hq1, hone]
    refine ⟨by omega, cells_pre (by rw [unbs_len_eq]; simp), LeI q, Gkm, ⟨0, 1, oneZ r, rfl, by omega, .inl ⟨r, q.drop 1, hqc, rfl, by rw [hch1]⟩⟩, ?_⟩
    rintro ys _ ⟨j, sz, c, rfl, hj, hcd⟩
    have hE : ∀ a b, Gkm [a, b, .int (j : Int)] = 36 - j := fun _ _ => rfl
    have ej : IntKind.wrap .i64 ((j : Int) + 1) = ((j + 1 : Nat) : Int) := by rw [wrap_i64 (n := (j : Int) + 1) (by omega) (by omega)]; omega
    have hcn := cand_len hcd
    simp only [Tree.den, E.den, P1.den, P2.den, P3.den, List.map_cons, List.map_nil, List.cons_append, List.nil_append, List.getD_cons_zero, List.getD_cons_succ, List.getElem?_cons_zero, List.getElem?_cons_succ, asInt_int, asBool_bool, asStr_str, asList_list, cells_agg, TV.cell, pre_zero, pre_succ, post_zero, post_succ, decide_eq_true_eq, decide_eq_false_iff_not, beq_iff_eq, beq_eq_false_iff_ne, Bool.not_eq_true', Bool.not_eq_false', ne_eq, List.length_cons, List.length_nil, forall_eq, Bool.false_eq_true, Bool.true_eq_false, Int.reduceToNat, Option.some.injEq, exists_eq_left', ints_asList, map_snoc, map_app, list_map, ints_nil, ints_get, ints_len, bs_get, Int.toNat_natCast, List.length_append, List.length_map, bs_length, hE, ej, signs_len, Int.min_self]
    refine ⟨fun hlj => ?_, fun hlj => ?_⟩
    · have hj36 : j < 36 := by omega
      have hs2 := sgn_two hj36
      rw [strs_get1 hj36, strs_get2 hj36]
      simp only [asStr_str, hp_all, begins_iff hq.byte, asBool_bool, bytes_ints]
      have keep : LeI q [.int (sz : Int), ints c, .int ((j + 1 : Nat) : Int)] ∧ Gkm [.int (sz : Int), ints c, .int ((j + 1 : Nat) : Int)] < 36 - j := by
        refine ⟨⟨j + 1, sz, c, rfl, by omega, hcd⟩, ?_⟩
        simp only [Gkm, List.getD_cons_zero, List.getD_cons_succ, asInt_int]; omega
      refine ⟨by omega, by omega, fun _ => ⟨by omega, by omega, hp_pre (by omega), fun hb => ⟨fun hlc => ?_, fun _ => keep⟩, fun _ => keep⟩, fun _ => keep⟩
      have ew : IntKind.wrap .i64 ((n : Int) + (j : Int)) = (n : Int) + (j : Int) := wrap_i64 (by omega) (by omega)
      have em : ((n : Int) + (j : Int)).tmod (ch.length : Int) = ((n : Int) + (j : Int)) % (ch.length : Int) := Int.tmod_eq_emod_of_nonneg (by omega)
      rw [ew, em]
      have h1 := Int.emod_nonneg ((n : Int) + (j : Int)) (b := (ch.length : Int)) (by omega)
      have h2 := Int.emod_lt_of_pos ((n : Int) + (j : Int)) (b := (ch.length : Int)) (by omega)
      refine ⟨by omega, h1, h2, fun _ => ⟨by omega, by omega, by omega, by omega, by omega, ⟨j + 1, _, _, rfl, by omega, .inr ⟨sgn j, sgn_mem hj36, hb, rfl, rfl⟩⟩, ?_⟩, fun _ => keep⟩
      simp only [Gkm, List.getD_cons_zero, List.getD_cons_succ, asInt_int]; omega
    · refine ⟨by omega, by omega, by omega, ⟨q.drop sz, us ++ [(sz, c)], n + 1, ?_, hq.drop sz, by rw [List.length_drop]; omega, by rw [List.length_drop]; omega, ?_, fun vs hv => ?_⟩, ?_⟩
      · rw [unbs_drop, unbs_take, List.take_of_length_le (by rw [List.length_drop]; omega), cellsOf_append]
        simp [cellsOf]
      · rw [cellsOf_append, List.length_append, cellsOf_cons, List.length_append, List.length_drop]
        simp only [cellsOf, List.flatMap_nil, List.length_nil] at *
        omega
      · rw [List.append_assoc]
        exact hdv _ (.cons hcd hv)
      · simp only [Ldm, List.getD_cons_zero, asStr_str]
        rw [unbs_drop, unbs_take, unbs_len_eq, List.take_of_length_le (by rw [List.length_drop]; omega), List.length_drop]
        omega
  · have hm : q = [] := by
      apply List.eq_nil_of_length_eq_zero
      rw [← hul]
      have : unbs q = [] := by simpa using hnil
      rw [this]
      rfl
    subst hm
    have := hdv [] .nil
    rw [List.append_nil] at this
    exact hfin us this)) rfl

/-! ### The laws -/
def bytesP (ts : List TV) : Prop := ∃ l : List Int, ts = [ints l] ∧ Byte l
theorem bytesP_of {t : TV} (h : OkA false [.slice false [.int .u8]] t) : bytesP [t] := by
  obtain ⟨l, rfl, h1, h2⟩ := h.ints
  exact ⟨l, rfl, fun b hb => h2 b hb⟩
def strP (ts : List TV) : Prop := ∃ s, ts = [.str s] ∧ s.length ≤ reachBytes
theorem strP_of {t : TV} (h : OkA false [.str] t) : strP [t] := by
  obtain ⟨s, rfl, h1⟩ := h.str
  exact ⟨s, rfl, h1⟩
def strsP (ts : List TV) : Prop := ∃ s t, ts = [.str s, .str t] ∧ s.length ≤ reachBytes ∧ t.length ≤ reachBytes
theorem strsP_of {t u : TV} (h : OkA false [.str] t) (k : OkA false [.str] u) : strsP [t, u] := by
  obtain ⟨s, rfl, h1⟩ := h.str
  obtain ⟨s', rfl, h2⟩ := k.str
  exact ⟨s, s', rfl, h1, h2⟩
def bytes2P (ts : List TV) : Prop := ∃ l m : List Int, ts = [ints l, ints m] ∧ Byte l ∧ Byte m
theorem bytes2P_of {t u : TV} (h : OkA false [.slice false [.int .u8]] t) (k : OkA false [.slice false [.int .u8]] u) : bytes2P [t, u] := by
  obtain ⟨l, rfl, h1, h2⟩ := h.ints
  obtain ⟨m, rfl, h3, h4⟩ := k.ints
  exact ⟨l, m, rfl, fun b hb => h2 b hb, fun b hb => h4 b hb⟩
def otherP (ts : List TV) : Prop := ∃ (l m : List Int) (r : Int), ts = [ints l, ints m, .int r] ∧ Byte l ∧ Byte m ∧ -2147483648 ≤ r ∧ r ≤ 2147483647
theorem otherP_of {t u v : TV} (h : OkA false [.slice false [.int .u8]] t) (k : OkA false [.slice false [.int .u8]] u) (i : OkA false [.int .i32] v) : otherP [t, u, v] := by
  obtain ⟨l, rfl, h1, h2⟩ := h.ints
  obtain ⟨m, rfl, h3, h4⟩ := k.ints
  obtain ⟨r, rfl, h5, h6⟩ := i.int
  exact ⟨l, m, r, rfl, fun b hb => h2 b hb, fun b hb => h4 b hb, h5, h6⟩
def prefP (ts : List TV) : Prop := ∃ i j r : Int, ts = [.int i, .int j, .int r] ∧ (0 ≤ i ∧ i ≤ 255) ∧ (0 ≤ j ∧ j ≤ 255) ∧ -2147483648 ≤ r ∧ r ≤ 2147483647
theorem prefP_of {t u v : TV} (h : OkA false [.int .u8] t) (k : OkA false [.int .u8] u) (i : OkA false [.int .i32] v) : prefP [t, u, v] := by
  obtain ⟨l, rfl, h1, h2⟩ := h.int
  obtain ⟨m, rfl, h3, h4⟩ := k.int
  obtain ⟨r, rfl, h5, h6⟩ := i.int
  exact ⟨l, m, r, rfl, ⟨h1, h2⟩, ⟨h3, h4⟩, h5, h6⟩
theorem lawBack_c (k : Nat) : Contract Tryd.prog (mkEnv globT []) gtab (sn_law52_ContractionBack k) (trueL bytesP).pre (trueL bytesP).post := Contract.env (Γ := mkEnv globT [backL, rbackL, awakeL]) (contract_law52_ContractionBack (fun _ => rfl) (fun s hs => by
    simp only [cx_law52_ContractionBack, List.mem_cons, List.not_mem_nil, or_false] at hs
    rcases hs with rfl | rfl | rfl
    · exact Contract.inEnv rfl (back_c 0) rfl
    · exact Contract.inEnv rfl (rback_c 1) rfl
    · exact Contract.inEnv rfl (awake_c 2) rfl) k (by
  rintro ts hl ⟨l, rfl, hb⟩
  unfold tr_law52_ContractionBack
  simp only [Tree.den, E.den, P1.den, P2.den, P3.den, List.map_cons, List.map_nil, List.cons_append, List.nil_append, List.getD_cons_zero, List.getD_cons_succ, List.getElem?_cons_zero, List.getElem?_cons_succ, asInt_int, asBool_bool, asStr_str, asList_list, cells_agg, TV.cell, pre_zero, pre_succ, post_zero, post_succ, decide_eq_true_eq, decide_eq_false_iff_not, beq_iff_eq, beq_eq_false_iff_ne, Bool.not_eq_true', Bool.not_eq_false', ne_eq, List.length_cons, List.length_nil, forall_eq, Bool.false_eq_true, Bool.true_eq_false, Int.reduceToNat, Option.some.injEq, exists_eq_left', awake_all, back_all, rback_all]
  simp only [Tree.den, E.den, P1.den, P2.den, P3.den, List.map_cons, List.map_nil, List.cons_append, List.nil_append, List.getD_cons_zero, List.getD_cons_succ, List.getElem?_cons_zero, List.getElem?_cons_succ, asInt_int, asBool_bool, asStr_str, asList_list, cells_agg, TV.cell, pre_zero, pre_succ, post_zero, post_succ, decide_eq_true_eq, decide_eq_false_iff_not, beq_iff_eq, beq_eq_false_iff_ne, Bool.not_eq_true', Bool.not_eq_false', ne_eq, List.length_cons, List.length_nil, forall_eq, Bool.false_eq_true, Bool.true_eq_false, Int.reduceToNat, Option.some.injEq, exists_eq_left', ints_asList, map_snoc, map_app, list_map, ints_nil, ints_get, ints_len, bs_get, Int.toNat_natCast, List.length_append, List.length_map, bs_length, awake_all]
  refine ⟨fun _ => ⟨awake_pre, rfl⟩, fun h => ⟨back_pre ⟨hb, by omega⟩, rback_pre ⟨hb, by omega⟩, ?_⟩⟩
  refine ⟨fun _ => ⟨fun _ => ⟨awake_pre, rfl⟩, fun h => ?_⟩, fun h => ?_⟩
  all_goals first | (exact absurd rfl h) | (exact absurd trivial h))) rfl
theorem lawRound_c (k : Nat) : Contract Tryd.prog (mkEnv globT []) gtab (sn_law52_ContractionRoundTrip k) (trueL strP).pre (trueL strP).post := Contract.env (Γ := mkEnv globT [decodeL, finishL, encL, cellsL, transL, backL, lengthL, awakeL]) (contract_law52_ContractionRoundTrip (fun _ => rfl) (fun s hs => by
    simp only [cx_law52_ContractionRoundTrip, List.mem_cons, List.not_mem_nil, or_false] at hs
    rcases hs with rfl | rfl | rfl | rfl | rfl | rfl | rfl | rfl
    · exact Contract.inEnv rfl (decode_c 0) rfl
    · exact Contract.inEnv rfl (finish_c 1) rfl
    · exact Contract.inEnv rfl (enc_c 2) rfl
    · exact Contract.inEnv rfl (progCells_c 3) rfl
    · exact Contract.inEnv rfl (trans_c 4) rfl
    · exact Contract.inEnv rfl (back_c 5) rfl
    · exact Contract.inEnv rfl (length_c 6) rfl
    · exact Contract.inEnv rfl (awake_c 7) rfl) k (by
  rintro ts hl ⟨s, rfl, _⟩
  unfold tr_law52_ContractionRoundTrip
  have hfl := fin_len' s
  have hrest := bs_rest s
  have hch := fin_chars s
  have hbk : backT (cellsOf (transZ (Go.Proofs.YtlldpcmdmipggaaDoor.fin (bs s)))) = .agg [.str (unbs (encZ (Go.Proofs.YtlldpcmdmipggaaDoor.fin (bs s)))), .int 0] := backT_some (back_div' (trans_div' _) hch)
  have htl := trans_len (Go.Proofs.YtlldpcmdmipggaaDoor.fin (bs s))
  have htb := tot_bd (Go.Proofs.YtlldpcmdmipggaaDoor.fin (bs s))
  have htc := tot_le_cells hch
  have hby := div_byte (trans_div' (Go.Proofs.YtlldpcmdmipggaaDoor.fin (bs s)))
  simp only [Tree.den, E.den, P1.den, P2.den, P3.den, List.map_cons, List.map_nil, List.cons_append, List.nil_append, List.getD_cons_zero, List.getD_cons_succ, List.getElem?_cons_zero, List.getElem?_cons_succ, asInt_int, asBool_bool, asStr_str, asList_list, cells_agg, TV.cell, pre_zero, pre_succ, post_zero, post_succ, decide_eq_true_eq, decide_eq_false_iff_not, beq_iff_eq, beq_eq_false_iff_ne, Bool.not_eq_true', Bool.not_eq_false', ne_eq, List.length_cons, List.length_nil, forall_eq, Bool.false_eq_true, Bool.true_eq_false, Int.reduceToNat, Option.some.injEq, exists_eq_left', awake_all, trans_all, decode_all, decT, transT, List.nil_append]
  simp only [Tree.den, E.den, P1.den, P2.den, P3.den, List.map_cons, List.map_nil, List.cons_append, List.nil_append, List.getD_cons_zero, List.getD_cons_succ, List.getElem?_cons_zero, List.getElem?_cons_succ, asInt_int, asBool_bool, asStr_str, asList_list, cells_agg, TV.cell, pre_zero, pre_succ, post_zero, post_succ, decide_eq_true_eq, decide_eq_false_iff_not, beq_iff_eq, beq_eq_false_iff_ne, Bool.not_eq_true', Bool.not_eq_false', ne_eq, List.length_cons, List.length_nil, forall_eq, Bool.false_eq_true, Bool.true_eq_false, Int.reduceToNat, Option.some.injEq, exists_eq_left', ints_asList, map_snoc, map_app, list_map, ints_nil, ints_get, ints_len, bs_get, Int.toNat_natCast, List.length_append, List.length_map, bs_length, awake_all, finish_all, hrest, ← fin_split, enc_all, cells_all, back_all, hbk, length_all]
  have hdl := dec_len (bs s)
  have hsl := bs_length s
  have hul := unbs_len (dec (bs s)).2
  have hff : (Go.Proofs.YtlldpcmdmipggaaDoor.fin (dec (bs s)).2).length ≤ (dec (bs s)).2.length := fin_len _
  refine ⟨fun _ => ⟨awake_pre, rfl⟩, fun ha => ⟨trans_pre (by omega), back_pre ⟨hby, by omega⟩, decode_pre (by rw [List.length_nil]; omega), finish_pre (by omega), by omega, ?_⟩⟩
  have q1 : encL.pre [ints (Go.Proofs.YtlldpcmdmipggaaDoor.fin (bs s))] := enc_pre ⟨hch.run, by omega⟩
  have q2 := length_pre (s := s) (by omega)
  have q3 := cells_pre (s := s) (by omega)
  have w1 : ((cellsOf (transZ (Go.Proofs.YtlldpcmdmipggaaDoor.fin (bs s)))).length : Int) = (totZ (Go.Proofs.YtlldpcmdmipggaaDoor.fin (bs s)) : Int) := by rw [htl]
  have w2 : ((cellsOf (transZ (Go.Proofs.YtlldpcmdmipggaaDoor.fin (bs s)))).length : Int) ≤ ((cellsZ (Go.Proofs.YtlldpcmdmipggaaDoor.fin (bs s))).length : Int) := by omega
  repeat' (first
    | exact awake_pre
    | exact rfl
    | exact q1
    | exact q2
    | exact q3
    | (refine ⟨fun _ => ?_, fun h => (by first | (exact absurd w1 h) | (exact absurd w2 h) | (exact absurd rfl h) | (exact absurd trivial h))⟩)
    | (refine ⟨?_, ?_⟩)))) rfl
theorem lawLeast_c (k : Nat) : Contract Tryd.prog (mkEnv globT []) gtab (sn_law52_ContractionLeast k) (trueL bytes2P).pre (trueL bytes2P).post := Contract.env (Γ := mkEnv globT [backL, lengthL, awakeL, ldivL, plainL]) (contract_law52_ContractionLeast (fun _ => rfl) (fun s hs => by
    simp only [cx_law52_ContractionLeast, List.mem_cons, List.not_mem_nil, or_false] at hs
    rcases hs with rfl | rfl | rfl | rfl | rfl
    · exact Contract.inEnv rfl (back_c 0) rfl
    · exact Contract.inEnv rfl (length_c 1) rfl
    · exact Contract.inEnv rfl (awake_c 2) rfl
    · exact Contract.inEnv rfl (ldiv_c 3) rfl
    · exact Contract.inEnv rfl (plain_c 4) rfl) k (by
  rintro ts hl ⟨l, ch, rfl, hb, hc⟩
  unfold tr_law52_ContractionLeast
  have hpp := plain_plain hb
  have hpl : (plainZ l).length = l.length := by unfold plainZ; rw [List.length_map]
  simp only [Tree.den, E.den, P1.den, P2.den, P3.den, List.map_cons, List.map_nil, List.cons_append, List.nil_append, List.getD_cons_zero, List.getD_cons_succ, List.getElem?_cons_zero, List.getElem?_cons_succ, asInt_int, asBool_bool, asStr_str, asList_list, cells_agg, TV.cell, pre_zero, pre_succ, post_zero, post_succ, decide_eq_true_eq, decide_eq_false_iff_not, beq_iff_eq, beq_eq_false_iff_ne, Bool.not_eq_true', Bool.not_eq_false', ne_eq, List.length_cons, List.length_nil, forall_eq, Bool.false_eq_true, Bool.true_eq_false, Int.reduceToNat, Option.some.injEq, exists_eq_left', awake_all, plain_all]
  simp only [Tree.den, E.den, P1.den, P2.den, P3.den, List.map_cons, List.map_nil, List.cons_append, List.nil_append, List.getD_cons_zero, List.getD_cons_succ, List.getElem?_cons_zero, List.getElem?_cons_succ, asInt_int, asBool_bool, asStr_str, asList_list, cells_agg, TV.cell, pre_zero, pre_succ, post_zero, post_succ, decide_eq_true_eq, decide_eq_false_iff_not, beq_iff_eq, beq_eq_false_iff_ne, Bool.not_eq_true', Bool.not_eq_false', ne_eq, List.length_cons, List.length_nil, forall_eq, Bool.false_eq_true, Bool.true_eq_false, Int.reduceToNat, Option.some.injEq, exists_eq_left', ints_asList, map_snoc, map_app, list_map, ints_nil, ints_get, ints_len, bs_get, Int.toNat_natCast, List.length_append, List.length_map, bs_length, awake_all, length_all, hpp.fin]
  refine ⟨fun _ => ⟨awake_pre, rfl⟩, fun h1 => ⟨fun _ => ⟨awake_pre, rfl⟩, fun h2 => ⟨plain_pre ⟨hb, by omega⟩, ldiv_pre hpp hc (by omega) (by omega), fun z hz => ?_⟩⟩⟩
  obtain ⟨us, hd, rfl⟩ := ldiv_use hpp hz
  have hbk : backT (cellsOf us) = .agg [.str (unbs (plainZ l)), .int 0] := by rw [backT_some (back_div' hd hpp.chars), hpp.enc]
  have hdl := div_len hd
  have hle := div_le hd
  have q1 := length_pre (s := unbs (plainZ l)) (by rw [unbs_len_eq]; omega)
  have w1 : ((totZ (plainZ l) : Nat) : Int) ≤ ((cellsOf us).length : Int) := by omega
  simp only [Tree.den, E.den, P1.den, P2.den, P3.den, List.map_cons, List.map_nil, List.cons_append, List.nil_append, List.getD_cons_zero, List.getD_cons_succ, List.getElem?_cons_zero, List.getElem?_cons_succ, asInt_int, asBool_bool, asStr_str, asList_list, cells_agg, TV.cell, pre_zero, pre_succ, post_zero, post_succ, decide_eq_true_eq, decide_eq_false_iff_not, beq_iff_eq, beq_eq_false_iff_ne, Bool.not_eq_true', Bool.not_eq_false', ne_eq, List.length_cons, List.length_nil, forall_eq, Bool.false_eq_true, Bool.true_eq_false, Int.reduceToNat, Option.some.injEq, exists_eq_left', ints_asList, map_snoc, map_app, list_map, ints_nil, ints_get, ints_len, bs_get, Int.toNat_natCast, List.length_append, List.length_map, bs_length, back_all, hbk, ints_len]
  refine ⟨back_pre ⟨div_byte hd, by omega⟩, ?_⟩
  repeat' (first
    | exact awake_pre
    | exact rfl
    | exact q1
    | (refine ⟨fun _ => ?_, fun h => (by first | (exact absurd w1 h) | (exact absurd rfl h) | (exact absurd trivial h))⟩)
    | (refine ⟨?_, ?_⟩)))) rfl
end Go.Proofs.YtlldpcmdmipggaaDoor
