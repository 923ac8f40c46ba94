/- The contract of the reference's Translate. -/
import Derived.Test.YtbeelajedknohaaDoorCnf
namespace Go.Proofs.YtbeelajedknohaaDoor
set_option linter.unusedSimpArgs false
set_option linter.unusedVariables false
set_option linter.unusedSectionVars false

theorem tot_get (l : List Int) (i : Nat) : (totL (tabU l)).getD i 0 = (totZ (l.drop i) : Int) := by rw [totL_get, tabU_get]; rfl
theorem cand_unique {l : List Int} {n : Nat} {c d : List Int} (h : Cand l n c) (k : Cand l n d) : c = d := by
  rcases h with ⟨r, m, rfl, rfl, rfl⟩ | ⟨s, hs, hb, rfl, rfl⟩
  · rcases k with ⟨r', m', e, _, rfl⟩ | ⟨t, ht, hb, e, rfl⟩
    · injection e with e1 e2
      rw [e1]
    · have := (signs_two t ht).1
      omega
  · rcases k with ⟨r', m', e, e1, rfl⟩ | ⟨t, ht, hb2, e, rfl⟩
    · have := (signs_two s hs).1
      omega
    · have h1 := begins_take hb
      have h2 := begins_take hb2
      rw [← e, h1] at h2
      rw [signs_text s hs t ht (bs_inj h2)]
/-- What is known of a unit that is sought among the first signs. -/
structure Seek (l : List Int) (j sz : Nat) (c : List Int) : Prop where
  short : c.length ≤ 7
  cand : sz = 0 ∨ (Cand l sz c ∧ c.length + totZ (l.drop sz) = totZ l)
  single : ∀ r m, l = r :: m → (oneZ (chZ r)).length + totZ (l.drop 1) = totZ l → 1 ≤ sz
  all : ∀ s ∈ signsB.take j, beginsZ l s.1 = true → s.2.length + totZ (l.drop s.1.length) = totZ l → s.1.length ≤ sz
theorem Seek.best {r : Int} {m : List Int} {sz : Nat} {c : List Int} (h : Seek (r :: m) 36 sz c) : sz = (bestU (r :: m)).size ∧ c = (bestU (r :: m)).cells := by
  obtain ⟨hc, ht⟩ := best_fits r m
  have ht' : (bestU (r :: m)).cells.length + totZ ((r :: m).drop (bestU (r :: m)).size) = totZ (r :: m) := ht.symm
  have h1 : (bestU (r :: m)).size ≤ sz := by
    rcases hc with ⟨r', m', e, e1, e2⟩ | ⟨s, hs, hb, e1, e2⟩
    · rw [e1, e2] at ht'
      rw [e1]
      injection e with e3 e4
      subst e3 e4
      exact h.single _ _ rfl ht'
    · rw [e1, e2, bs_length] at ht'
      rw [e1]
      exact h.all s (by rw [List.take_of_length_le (by rw [signs_len]; omega)]; exact hs) hb ht'
  have hpos := (best_size r m).1
  rcases h.cand with h0 | ⟨h2, h3⟩
  · omega
  · have h4 := (best_top h2).2 h3
    have h5 : sz = (bestU (r :: m)).size := by omega
    subst h5
    exact ⟨rfl, cand_unique h2 hc⟩
theorem Seek.next {l : List Int} {j sz : Nat} {c : List Int} (h : Seek l j sz c) (hj : j < 36) (hn : beginsZ l (sgn j).1 = true → (sgn j).2.length + totZ (l.drop (sgn j).1.length) = totZ l → (sgn j).1.length ≤ sz) : Seek l (j + 1) sz c :=
  ⟨h.short, h.cand, h.single, fun s hs hb ht => by
    rw [signs_take hj] at hs
    rcases List.mem_append.1 hs with hs | hs
    · exact h.all s hs hb ht
    · simp only [List.mem_singleton] at hs
      subst hs
      exact hn hb ht⟩
theorem Seek.take {l : List Int} {j sz : Nat} {c : List Int} (h : Seek l j sz c) (hj : j < 36) (hb : beginsZ l (sgn j).1 = true) (ht : (sgn j).2.length + totZ (l.drop (sgn j).1.length) = totZ l) (hlt : sz < (sgn j).1.length) : Seek l (j + 1) (sgn j).1.length (bs (sgn j).2) := by
  have hs2 := sgn_two hj
  refine ⟨by rw [bs_length]; omega, .inr ⟨.inr ⟨sgn j, sgn_mem hj, hb, rfl, rfl⟩, by rw [bs_length]; exact ht⟩, fun r m e he => by omega, fun s hs hb2 ht2 => ?_⟩
  rw [signs_take hj] at hs
  rcases List.mem_append.1 hs with hs | hs
  · have := h.all s hs hb2 ht2; omega
  · simp only [List.mem_singleton] at hs
    subst hs
    exact Nat.le_refl _
def GkI (l : List Int) (xs : List TV) : Prop := ∃ (j sz : Nat) (c : List Int), xs = [.int sz, ints c, .int j] ∧ j ≤ 36 ∧ Seek l j sz c ∧ sz ≤ l.length
def Gkm (xs : List TV) : Nat := 36 - (xs.getD 2 (.int 0)).asInt.toNat
def GpI (o f c : List Int) (k : Nat) (xs : List TV) : Prop := ∃ j : Nat, xs = [.int j, ints (o ++ c.take j), ints (f ++ List.replicate j (k : Int))] ∧ j ≤ c.length
def rtransL : Law := ⟨fun ts => ∃ (s : List UInt8), ts = [.str s] ∧ (s.length ≤ 1000000), fun ts z₀ => ∀ (s : List UInt8), ts = [.str s] → z₀ = transT (Go.Proofs.YtbeelajedknohaaDoor.fin (bs s))⟩
theorem rtrans_pre {s : List UInt8} (h : s.length ≤ 1000000) : rtransL.pre [.str s] := ⟨s, rfl, h⟩
theorem rtrans_fin {s : List UInt8} {z₀ : TV} (h : z₀ = transT (Go.Proofs.YtbeelajedknohaaDoor.fin (bs s))) : rtransL.post [.str s] z₀ := fun s₁ e => by
  simp only [List.cons.injEq, TV.str.injEq, TV.int.injEq, TV.bool.injEq, TV.agg.injEq, TV.list.injEq, ints_eq, and_true, true_and, and_assoc] at e; subst e
  exact h
theorem rtrans_all {s : List UInt8} {Q : TV → Prop} : (∀ z₀, rtransL.post [.str s] z₀ → Q z₀) ↔ Q (transT (Go.Proofs.YtbeelajedknohaaDoor.fin (bs s))) := ⟨fun h => h _ (rtrans_fin rfl), fun h z₀ hr => by rw [hr _ rfl]; exact h⟩
theorem rtrans_c (k : Nat) : Contract Tryd.prog (mkEnv globT []) gtab (sn_ref52_Translate k) rtransL.pre rtransL.post := Contract.env (Γ := mkEnv globT [charsL, textsL, rsignsL, startsL, singleL, costsL]) (contract_ref52_Translate (fun _ => rfl) (fun s hs => by
    simp only [cx_ref52_Translate, List.mem_cons, List.not_mem_nil, or_false] at hs
    rcases hs with rfl | rfl | rfl | rfl | rfl | rfl
    · exact Contract.inEnv rfl (refChars_c 0) rfl
    · exact Contract.inEnv rfl (texts_c 1) rfl
    · exact Contract.inEnv rfl (rsigns_c 2) rfl
    · exact Contract.inEnv rfl (starts_c 3) rfl
    · exact Contract.inEnv rfl (single_c 4) rfl
    · exact Contract.inEnv rfl (costs_c 5) rfl) k (by
  rintro ts hl ⟨s, rfl, hp⟩
  have hfin : ∀ z₀ : TV, z₀ = transT (Go.Proofs.YtbeelajedknohaaDoor.fin (bs s)) → rtransL.post [.str s] z₀ := fun z₀ h => rtrans_fin h
  generalize rtransL.post [.str s] = R at hfin ⊢
  unfold tr_ref52_Translate
  have hll := fin_len' s
  have hrf := run_fin s
  simp only [Tree.den, E.den, P1.den, P2.den, P3.den, List.map_cons, List.map_nil, List.cons_append, List.nil_append, List.getD_cons_zero, List.getD_cons_succ, List.getElem?_cons_zero, List.getElem?_cons_succ, asInt_int, asBool_bool, asStr_str, asList_list, cells_agg, TV.cell, pre_zero, pre_succ, post_zero, post_succ, decide_eq_true_eq, decide_eq_false_iff_not, beq_iff_eq, beq_eq_false_iff_ne, Bool.not_eq_true', Bool.not_eq_false', ne_eq, List.length_cons, List.length_nil, forall_eq, Bool.false_eq_true, Bool.true_eq_false, Int.reduceToNat, Option.some.injEq, exists_eq_left', chars_all, texts_all, rsigns_all, costs_all]
  simp only [Tree.den, E.den, P1.den, P2.den, P3.den, List.map_cons, List.map_nil, List.cons_append, List.nil_append, List.getD_cons_zero, List.getD_cons_succ, List.getElem?_cons_zero, List.getElem?_cons_succ, asInt_int, asBool_bool, asStr_str, asList_list, cells_agg, TV.cell, pre_zero, pre_succ, post_zero, post_succ, decide_eq_true_eq, decide_eq_false_iff_not, beq_iff_eq, beq_eq_false_iff_ne, Bool.not_eq_true', Bool.not_eq_false', ne_eq, List.length_cons, List.length_nil, forall_eq, Bool.false_eq_true, Bool.true_eq_false, Int.reduceToNat, Option.some.injEq, exists_eq_left', ints_asList, map_snoc, map_app, list_map, ints_nil, ints_get, ints_len, bs_get, Int.toNat_natCast, List.length_append, List.length_map, bs_length]
  generalize Go.Proofs.YtbeelajedknohaaDoor.fin (bs s) = l at *
  refine ⟨chars_pre hp, costs_pre ⟨hrf, by omega⟩, texts_pre, rsigns_pre, TrI l, Trm l, ⟨0, [], [], rfl, by omega, by rw [List.drop_zero]; rfl, by rw [List.drop_zero]; rfl⟩, ?_⟩
  rintro xs _ ⟨k, o, f, rfl, hk, ho, hf⟩
  have hD : Trm l [.int (k : Int), ints o, ints f] = l.length - k := rfl
  have e64 : IntKind.wrap .i64 ((k : Int) + 1) = ((k + 1 : Nat) : Int) := by rw [wrap_i64 (by omega) (by omega)]; omega
  have htot : ∀ i, (totZ (l.drop i) : Int) ≤ 7000000 := fun i => by
    have := tot_bd (l.drop i)
    rw [List.length_drop] at this
    omega
  simp only [Tree.den, E.den, P1.den, P2.den, P3.den, List.map_cons, List.map_nil, List.cons_append, List.nil_append, List.getD_cons_zero, List.getD_cons_succ, List.getElem?_cons_zero, List.getElem?_cons_succ, asInt_int, asBool_bool, asStr_str, asList_list, cells_agg, TV.cell, pre_zero, pre_succ, post_zero, post_succ, decide_eq_true_eq, decide_eq_false_iff_not, beq_iff_eq, beq_eq_false_iff_ne, Bool.not_eq_true', Bool.not_eq_false', ne_eq, List.length_cons, List.length_nil, forall_eq, Bool.false_eq_true, Bool.true_eq_false, Int.reduceToNat, Option.some.injEq, exists_eq_left', ints_asList, map_snoc, map_app, list_map, ints_nil, ints_get, ints_len, bs_get, Int.toNat_natCast, List.length_append, List.length_map, bs_length, hD, e64, tot_get, totL_len, tab_length, single_all]
  have htl := trans_len l
  have htb := tot_bd l
  have hfl := fromZ_len (transZ l) 0
  have hol := congrArg List.length ho
  have hfl2 := congrArg List.length hf
  rw [List.length_append] at hol hfl2
  refine ⟨fun hlt => ?_, fun hlt => ?_⟩
  · have hkl : k < l.length := by omega
    have hd := drop_get hkl
    have hrr : -2147483648 ≤ l.getD k 0 ∧ l.getD k 0 ≤ 2147483647 := hrf _ (by rw [List.getD_eq_getElem?_getD, List.getElem?_eq_getElem hkl]; exact List.getElem_mem hkl)
    generalize l.getD k 0 = r at *
    have hd1 : (l.drop k).drop 1 = l.drop (k + 1) := by rw [List.drop_drop]
    have htk1 := htot (k + 1)
    generalize hm : l.drop (k + 1) = m at *
    have hml : m.length = l.length - (k + 1) := by rw [← hm, List.length_drop]
    have hs := best_size r m
    have htc := trans_cons r m
    rw [← hd] at htc
    rw [← hd] at hs
    have hdd : ∀ n, (l.drop k).drop n = l.drop (k + n) := fun n => by rw [List.drop_drop]
    rw [hdd] at htc
    rw [htc, cellsOf_cons] at ho
    rw [htc] at hf
    simp only [fromZ] at hf
    have hol := congrArg List.length ho
    have hfl2 := congrArg List.length hf
    simp only [List.length_append, List.length_replicate] at hol hfl2
    have hone := oneZ_len (chZ r)
    have hdl : (l.drop k).length = l.length - k := List.length_drop
    have e1 : IntKind.wrap .i64 (((oneZ (chZ r)).length : Int) + (totZ m : Int)) = (((oneZ (chZ r)).length + totZ m : Nat) : Int) := by rw [wrap_i64 (by omega) (by omega)]; omega
    rw [e1]
    refine ⟨by omega, by omega, single_pre hrr, by omega, by omega, by omega, by omega, fun hne => ?_, fun heq => ?_⟩
    all_goals refine ⟨GkI (l.drop k), Gkm, ?_, ?_⟩
    · refine ⟨0, 0, _, rfl, by omega, ⟨hone, .inl rfl, fun r' m' e he => ?_, fun s hs => by simp at hs⟩, by omega⟩
      rw [hd] at e
      injection e with e3 e4
      subst e3
      rw [hd1] at he
      omega
    rotate_left
    · refine ⟨0, 1, _, rfl, by omega, ⟨hone, .inr ⟨.inl ⟨r, m, hd, rfl, rfl⟩, by rw [hd1]; omega⟩, fun _ _ _ _ => Nat.le_refl _, fun s hs => by simp at hs⟩, by omega⟩
    all_goals
      rintro ys _ ⟨j, sz, c, rfl, hj, hseek, hszl⟩
      have hE : ∀ a b, Gkm [a, b, .int (j : Int)] = 36 - j := fun _ _ => rfl
      have ej : IntKind.wrap .i64 ((j : Int) + 1) = ((j + 1 : Nat) : Int) := by rw [wrap_i64 (n := (j : Int) + 1) (by omega) (by omega)]; omega
      have hcs := hseek.short
      simp only [Tree.den, E.den, P1.den, P2.den, P3.den, List.map_cons, List.map_nil, List.cons_append, List.nil_append, List.getD_cons_zero, List.getD_cons_succ, List.getElem?_cons_zero, List.getElem?_cons_succ, asInt_int, asBool_bool, asStr_str, asList_list, cells_agg, TV.cell, pre_zero, pre_succ, post_zero, post_succ, decide_eq_true_eq, decide_eq_false_iff_not, beq_iff_eq, beq_eq_false_iff_ne, Bool.not_eq_true', Bool.not_eq_false', ne_eq, List.length_cons, List.length_nil, forall_eq, Bool.false_eq_true, Bool.true_eq_false, Int.reduceToNat, Option.some.injEq, exists_eq_left', ints_asList, map_snoc, map_app, list_map, ints_nil, ints_get, ints_len, bs_get, Int.toNat_natCast, List.length_append, List.length_map, bs_length, hE, ej, textsT_list, cellsT_list, signs_len, tot_get, totL_len, tab_length]
      refine ⟨fun hlj => ?_, fun hlj => ?_⟩
      · have hj36 : j < 36 := by omega
        have hs2 := sgn_two hj36
        rw [strs_get1 hj36, strs_get2 hj36]
        have hsub : TV.list (((l.map TV.int).drop k).take (l.length - k)) = ints (l.drop k) := by rw [ints_drop]
        rw [hsub]
        simp only [starts_all, Tree.den, E.den, P1.den, P2.den, P3.den, List.map_cons, List.map_nil, List.cons_append, List.nil_append, List.getD_cons_zero, List.getD_cons_succ, List.getElem?_cons_zero, List.getElem?_cons_succ, asInt_int, asBool_bool, asStr_str, asList_list, cells_agg, TV.cell, pre_zero, pre_succ, post_zero, post_succ, decide_eq_true_eq, decide_eq_false_iff_not, beq_iff_eq, beq_eq_false_iff_ne, Bool.not_eq_true', Bool.not_eq_false', ne_eq, List.length_cons, List.length_nil, forall_eq, Bool.false_eq_true, Bool.true_eq_false, Int.reduceToNat, Option.some.injEq, exists_eq_left', ints_asList, map_snoc, map_app, list_map, ints_nil, ints_get, ints_len, bs_get, Int.toNat_natCast, List.length_append, List.length_map, bs_length]
        have keep : (beginsZ (l.drop k) (sgn j).1 = true → (sgn j).2.length + totZ ((l.drop k).drop (sgn j).1.length) = totZ (l.drop k) → (sgn j).1.length ≤ sz) → GkI (l.drop k) [.int (sz : Int), ints c, .int ((j + 1 : Nat) : Int)] ∧ Gkm [.int (sz : Int), ints c, .int ((j + 1 : Nat) : Int)] < 36 - j := by
          intro h
          refine ⟨⟨j + 1, sz, c, rfl, by omega, hseek.next hj36 h, hszl⟩, ?_⟩
          simp only [Gkm, List.getD_cons_zero, List.getD_cons_succ, asInt_int]; omega
        refine ⟨by omega, by omega, by omega, by omega, starts_pre (by omega), fun hbig => ?_, fun hsm => keep fun hb _ => ?_⟩
        · have hyes : beginsZ (l.drop k) (sgn j).1 = true := by
            by_cases h : beginsZ (l.drop k) (sgn j).1 = true
            · exact h
            · rw [if_neg h] at hbig; omega
          rw [if_pos hyes] at hbig ⊢
          have hbl := begins_len hyes
          have htn := htot (k + (sgn j).1.length)
          have en : IntKind.wrap .i64 ((k : Int) + ((sgn j).1.length : Int)) = ((k + (sgn j).1.length : Nat) : Int) := by rw [wrap_i64 (by omega) (by omega)]; omega
          simp only [en, Int.toNat_natCast, bytes_ints]
          have et : IntKind.wrap .i64 (((sgn j).2.length : Int) + (totZ (l.drop (k + (sgn j).1.length)) : Int)) = (((sgn j).2.length + totZ (l.drop (k + (sgn j).1.length)) : Nat) : Int) := by rw [wrap_i64 (by omega) (by omega)]; omega
          rw [et]
          refine ⟨by omega, by omega, by omega, by omega, by omega, by omega, fun heq2 => ⟨by omega, by omega, by omega, ⟨j + 1, _, _, rfl, by omega, hseek.take hj36 hyes (by rw [hdd]; omega) (by omega), by omega⟩, ?_⟩, fun hne2 => keep fun _ h => ?_⟩
          · simp only [Gkm, List.getD_cons_zero, List.getD_cons_succ, asInt_int]; omega
          · rw [hdd] at h; omega
        · rw [if_pos hb] at hsm; omega
      · have : j = 36 := by omega
        subst this
        rw [hd] at hseek
        obtain ⟨q1, q2⟩ := hseek.best
        rw [← hd] at q1 q2
        rw [← q1, ← q2] at ho hf hol hfl2 hs
        refine ⟨GpI o f c k, Tsm c, ⟨0, by simp, by omega⟩, ?_⟩
        rintro zs _ ⟨i, rfl, hi⟩
        have hF : ∀ a b, Tsm c [.int (i : Int), a, b] = c.length - i := fun _ _ => rfl
        have ei : IntKind.wrap .i64 ((i : Int) + 1) = ((i + 1 : Nat) : Int) := by rw [wrap_i64 (n := (i : Int) + 1) (by omega) (by omega)]; omega
        have ek : IntKind.wrap .i64 ((k : Int) + (sz : Int)) = ((k + sz : Nat) : Int) := by rw [wrap_i64 (by omega) (by omega)]; omega
        have htt := List.length_take_le i c
        simp only [Tree.den, E.den, P1.den, P2.den, P3.den, List.map_cons, List.map_nil, List.cons_append, List.nil_append, List.getD_cons_zero, List.getD_cons_succ, List.getElem?_cons_zero, List.getElem?_cons_succ, asInt_int, asBool_bool, asStr_str, asList_list, cells_agg, TV.cell, pre_zero, pre_succ, post_zero, post_succ, decide_eq_true_eq, decide_eq_false_iff_not, beq_iff_eq, beq_eq_false_iff_ne, Bool.not_eq_true', Bool.not_eq_false', ne_eq, List.length_cons, List.length_nil, forall_eq, Bool.false_eq_true, Bool.true_eq_false, Int.reduceToNat, Option.some.injEq, exists_eq_left', ints_asList, map_snoc, map_app, list_map, ints_nil, ints_get, ints_len, bs_get, Int.toNat_natCast, List.length_append, List.length_map, bs_length, hF, ei, ek, rep_snoc, List.length_replicate]
        refine ⟨fun hlj2 => ⟨by omega, by omega, by omega, by omega, ⟨i + 1, ?_, by omega⟩, ?_⟩, fun hlj2 => ⟨⟨k + sz, _, _, rfl, by omega, ?_, ?_⟩, ?_⟩⟩
        · rw [take_snoc (l := c) (k := i) (by omega), List.append_assoc]
        · simp only [Tsm, List.getD_cons_zero, asInt_int]; omega
        · rw [ho, List.take_of_length_le (by omega), List.append_assoc]
        · have : i = c.length := by omega
          rw [hf, this, List.append_assoc]
        · simp only [Trm, List.getD_cons_zero, asInt_int]; omega
  · have : k = l.length := by omega
    subst this
    rw [List.drop_of_length_le (Nat.le_refl _), trans_nil] at ho hf
    refine hfin _ ?_
    unfold transT
    rw [ho, hf]
    simp [cellsOf, fromZ])) rfl
end Go.Proofs.YtbeelajedknohaaDoor
