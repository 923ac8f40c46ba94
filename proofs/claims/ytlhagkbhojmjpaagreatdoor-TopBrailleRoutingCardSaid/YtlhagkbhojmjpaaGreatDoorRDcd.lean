/- Written by this repo's own program out of its texts. -/
import Derived.Test.YtlhagkbhojmjpaaGreatDoorRKez
namespace Go.Proofs.YtlhagkbhojmjpaaGreatDoor
set_option linter.unusedSimpArgs false
set_option linter.unusedVariables false
set_option linter.unusedSectionVars false
theorem slow_c (k : Nat) : Contract Tryz.prog (mkEnv globT []) gtabU (qiq k) falseL.pre falseL.post := ⟨⟨Tryz.f104, Tryz.f104.body.getD .skip, Tryz.func104, by kernel_rfl, by kernel_rfl⟩, fun _ _ _ _ _ h => h.elim⟩
def pdruL : Law := ⟨fun ts => ∃ (b : UInt8) (t : List UInt8), ts = [.str (b :: t)] ∧ (b.toNat < 128), fun ts z₀ => ∀ (b : UInt8) (t : List UInt8), ts = [.str (b :: t)] → z₀ = .agg [.int b.toNat, .int 1]⟩
theorem pdru_pre {b : UInt8} {t : List UInt8} (h : b.toNat < 128) : pdruL.pre [.str (b :: t)] := ⟨b, t, rfl, h⟩
theorem pdru_fin {b : UInt8} {t : List UInt8} {z₀ : TV} (h : z₀ = .agg [.int b.toNat, .int 1]) : pdruL.post [.str (b :: t)] z₀ := fun b₁ t₁ e => by
  simp only [List.cons.injEq, TV.str.injEq, TV.int.injEq, TV.bool.injEq, TV.agg.injEq, TV.list.injEq, zat, and_true, true_and, and_assoc] at e; obtain ⟨rfl, rfl⟩ := e
  exact h
theorem pdru_all {b : UInt8} {t : List UInt8} {Q : TV → Prop} : (∀ z₀, pdruL.post [.str (b :: t)] z₀ → Q z₀) ↔ Q (.agg [.int b.toNat, .int 1]) := ⟨fun h => h _ (pdru_fin rfl), fun h z₀ hr => by rw [hr _ _ rfl]; exact h⟩
theorem pdru_c (k : Nat) : Contract Tryz.prog (mkEnv globT []) gtabU (qig k) pdruL.pre pdruL.post := Contract.env (Γ := mkEnv globT [falseL]) (qkk (fun _ => rfl) (fun s hs => by
    simp only [cx_unicode_utf8_DecodeRuneInString, List.mem_cons, List.not_mem_nil, or_false] at hs
    rcases hs with rfl
    · exact Contract.inEnv rfl (slow_c 0) rfl) k (by
  rintro ts hl ⟨b, t, rfl, hp⟩
  have hfin : ∀ z₀ : TV, z₀ = .agg [.int b.toNat, .int 1] → pdruL.post [.str (b :: t)] z₀ := fun z₀ hz₀ => pdru_fin hz₀
  generalize pdruL.post [.str (b :: t)] = R at hfin ⊢
  unfold tr_unicode_utf8_DecodeRuneInString
  have e1 : ((b :: t).getD (0 : Int).toNat 0) = b := rfl
  have e2 : IntKind.wrap .i32 (b.toNat : Int) = b.toNat := zax (by omega) (by omega)
  have e3 : ¬ (b :: t) = [] := by simp
  simp only [Tree.den, E.den, P1.den, P2.den, P3.den, qa, qb, qc, qd, qe, qf, qg, qh, zac, zab, zad, zaa, zae, TV.cell, zah, zai, zag, zaf, qi, qj, qk, ql, qm, qn, ne_eq, qo, qp, forall_eq, qs, qt, Int.reduceToNat, qu, exists_eq_left', e1, e2, e3]
  exact ⟨fun _ => ⟨by omega, fun _ => ⟨by omega, hfin _ rfl⟩, fun h => absurd (by omega) h⟩, fun h => h.elim⟩)) rfl
theorem glob_first : (mkEnv globT []).glob 0 = zea := by
  show globT 0 = _
  first | rfl | (unfold globT; rw [if_neg (by decide), if_pos (by decide)])
def pfulL : Law := ⟨fun ts => ∃ (t : List UInt8), ts = [.str (27 :: t)] ∧ (True), fun ts z₀ => ∀ (t : List UInt8), ts = [.str (27 :: t)] → z₀ = .bool true⟩
theorem pful_pre {t : List UInt8} (h : True) : pfulL.pre [.str (27 :: t)] := ⟨t, rfl, h⟩
theorem pful_fin {t : List UInt8} {z₀ : TV} (h : z₀ = .bool true) : pfulL.post [.str (27 :: t)] z₀ := fun t₁ e => by
  simp only [List.cons.injEq, TV.str.injEq, TV.int.injEq, TV.bool.injEq, TV.agg.injEq, TV.list.injEq, zat, and_true, true_and, and_assoc] at e; subst e
  exact h
theorem pful_all {t : List UInt8} {Q : TV → Prop} : (∀ z₀, pfulL.post [.str (27 :: t)] z₀ → Q z₀) ↔ Q (.bool true) := ⟨fun h => h _ (pful_fin rfl), fun h z₀ hr => by rw [hr _ rfl]; exact h⟩
theorem pful_c (k : Nat) : Contract Tryz.prog (mkEnv globT []) gtabU (qij k) pfulL.pre pfulL.post := Contract.env (Γ := mkEnv globT []) (qkt (fun _ => rfl) (fun s hs => by
    cases hs) k (by
  rintro ts hl ⟨t, rfl, hp⟩
  have hfin : ∀ z₀ : TV, z₀ = .bool true → pfulL.post [.str (27 :: t)] z₀ := fun z₀ hz₀ => pful_fin hz₀
  generalize pfulL.post [.str (27 :: t)] = R at hfin ⊢
  unfold tr_unicode_utf8_FullRuneInString
  have hG : (mkEnv globT []).glob 0 = zea := glob_first
  have e27 : ((zea).asList.getD (((27 : UInt8).toNat : Int)).toNat (TV.int 0)) = .int 240 := rfl
  have el : (256 : Int) ≤ ((zea).asList.length : Int) := by decide +kernel
  have ea : IntKind.i64.wrap (zbw .u8 (· &&& ·) 240 7) = 0 := by decide +kernel
  simp only [Tree.den, E.den, P1.den, P2.den, P3.den, qa, qb, qc, qd, qe, qf, qg, qh, zac, zab, zad, zaa, zae, TV.cell, zah, zai, zag, zaf, qi, qj, qk, ql, qm, qn, ne_eq, qo, qp, forall_eq, qs, qt, Int.reduceToNat, qu, exists_eq_left', hG, e27, ea]
  exact ⟨fun h => absurd h (by omega), fun _ => ⟨by omega, el, by decide, by decide, fun _ => hfin _ rfl, fun h => absurd (by omega) h⟩⟩)) rfl
def pcutL : Law := ⟨fun ts => ∃ (t : List UInt8), ts = [.str (27 :: t), .str [27]] ∧ (t.length ≤ 1000000), fun ts z₀ => ∀ (t : List UInt8), ts = [.str (27 :: t), .str [27]] → z₀ = .agg [.str t, .bool true]⟩
theorem pcut_pre {t : List UInt8} (h : t.length ≤ 1000000) : pcutL.pre [.str (27 :: t), .str [27]] := ⟨t, rfl, h⟩
theorem pcut_fin {t : List UInt8} {z₀ : TV} (h : z₀ = .agg [.str t, .bool true]) : pcutL.post [.str (27 :: t), .str [27]] z₀ := fun t₁ e => by
  simp only [List.cons.injEq, TV.str.injEq, TV.int.injEq, TV.bool.injEq, TV.agg.injEq, TV.list.injEq, zat, and_true, true_and, and_assoc] at e; subst e
  exact h
theorem pcut_all {t : List UInt8} {Q : TV → Prop} : (∀ z₀, pcutL.post [.str (27 :: t), .str [27]] z₀ → Q z₀) ↔ Q (.agg [.str t, .bool true]) := ⟨fun h => h _ (pcut_fin rfl), fun h z₀ hr => by rw [hr _ rfl]; exact h⟩
theorem pcut_c (k : Nat) : Contract Tryz.prog (mkEnv globT []) gtabU (qjj k) pcutL.pre pcutL.post := Contract.env (Γ := mkEnv globT []) (contract_strings_CutPrefix (fun _ => rfl) (fun s hs => by
    cases hs) k (by
  rintro ts hl ⟨t, rfl, hp⟩
  have hfin : ∀ z₀ : TV, z₀ = .agg [.str t, .bool true] → pcutL.post [.str (27 :: t), .str [27]] z₀ := fun z₀ hz₀ => pcut_fin hz₀
  generalize pcutL.post [.str (27 :: t), .str [27]] = R at hfin ⊢
  unfold tr_strings_CutPrefix
  simp only [Tree.den, E.den, P1.den, P2.den, P3.den, qa, qb, qc, qd, qe, qf, qg, qh, zac, zab, zad, zaa, zae, TV.cell, zah, zai, zag, zaf, qi, qj, qk, ql, qm, qn, ne_eq, qo, qp, forall_eq, qs, qt, Int.reduceToNat, qu, exists_eq_left']
  exact ⟨fun _ => ⟨by omega, by omega, fun h => absurd rfl h, fun _ => ⟨by omega, by omega, hfin _ (by
    show TV.agg [TV.str (List.take (t.length + 1 - 1) t), _] = _
    rw [Nat.add_sub_cancel, List.take_length])⟩⟩, fun h => absurd (by omega) h⟩)) rfl
def psglL : Law := ⟨fun ts => ∃ (b : UInt8) (t : List UInt8), ts = [.str (b :: t)] ∧ (b = 27 ∨ b = 91), fun ts z₀ => ∀ (b : UInt8) (t : List UInt8), ts = [.str (b :: t)] → z₀ = .agg [.agg [.str [], .int (if b = 91 then 91 else 0), .bool false, .bool false, .bool false], .int (if b = 91 then 1 else 0)]⟩
theorem psgl_pre {b : UInt8} {t : List UInt8} (h : b = 27 ∨ b = 91) : psglL.pre [.str (b :: t)] := ⟨b, t, rfl, h⟩
theorem psgl_fin {b : UInt8} {t : List UInt8} {z₀ : TV} (h : z₀ = .agg [.agg [.str [], .int (if b = 91 then 91 else 0), .bool false, .bool false, .bool false], .int (if b = 91 then 1 else 0)]) : psglL.post [.str (b :: t)] z₀ := fun b₁ t₁ e => by
  simp only [List.cons.injEq, TV.str.injEq, TV.int.injEq, TV.bool.injEq, TV.agg.injEq, TV.list.injEq, zat, and_true, true_and, and_assoc] at e; obtain ⟨rfl, rfl⟩ := e
  exact h
theorem psgl_all {b : UInt8} {t : List UInt8} {Q : TV → Prop} : (∀ z₀, psglL.post [.str (b :: t)] z₀ → Q z₀) ↔ Q (.agg [.agg [.str [], .int (if b = 91 then 91 else 0), .bool false, .bool false, .bool false], .int (if b = 91 then 1 else 0)]) := ⟨fun h => h _ (psgl_fin rfl), fun h z₀ hr => by rw [hr _ _ rfl]; exact h⟩
theorem psgl_c (k : Nat) : Contract Tryz.prog (mkEnv globT []) gtabU (qjx k) psglL.pre psglL.post := Contract.env (Γ := mkEnv globT [pdruL, pckrL]) (contract_keyinput_single (fun _ => rfl) (fun s hs => by
    simp only [cx_keyinput_single, List.mem_cons, List.not_mem_nil, or_false] at hs
    rcases hs with rfl | rfl
    · exact Contract.inEnv rfl (pdru_c 0) rfl
    · exact Contract.inEnv rfl (pckr_c 1) rfl) k (by
  rintro ts hl ⟨b, t, rfl, hp⟩
  have hfin : ∀ z₀ : TV, z₀ = .agg [.agg [.str [], .int (if b = 91 then 91 else 0), .bool false, .bool false, .bool false], .int (if b = 91 then 1 else 0)] → psglL.post [.str (b :: t)] z₀ := fun z₀ hz₀ => psgl_fin hz₀
  generalize psglL.post [.str (b :: t)] = R at hfin ⊢
  unfold tr_keyinput_single
  have e1 : ((b :: t).getD (0 : Int).toNat 0) = b := rfl
  have e3 : ¬ (b :: t) = [] := by simp
  have i1 : (if (27 : UInt8) = 91 then (91 : Int) else 0) = 0 := by decide
  have i2 : (if (27 : UInt8) = 91 then (1 : Int) else 0) = 0 := by decide
  have i3 : (if (91 : UInt8) = 91 then (91 : Int) else 0) = 91 := by decide
  have i4 : (if (91 : UInt8) = 91 then (1 : Int) else 0) = 1 := by decide
  rcases hp with rfl | rfl <;> simp only [i1, i2, i3, i4] at hfin <;> simp only [Tree.den, E.den, P1.den, P2.den, P3.den, qa, qb, qc, qd, qe, qf, qg, qh, zac, zab, zad, zaa, zae, TV.cell, zah, zai, zag, zaf, qi, qj, qk, ql, qm, qn, ne_eq, qo, qp, forall_eq, qs, qt, Int.reduceToNat, qu, exists_eq_left', e1, e3, pdru_all, pckr_all] <;>
    repeat' (first | exact hfin _ rfl | exact pdru_pre (by decide) | exact pckr_pre ⟨rfl, rfl, rfl, by decide⟩ | (refine ⟨?_, ?_⟩) | omega | (intro h; first | (exfalso; revert h; decide) | skip)))) rfl
abbrev Ky := List UInt8 × Bool × Bool × Bool
def keyQ (k : Ky) : TV := .agg [.str k.1, .int 0, .bool k.2.1, .bool k.2.2.1, .bool k.2.2.2]
def modK (n : List UInt8) (j : Nat) : Ky := (n, decide (0 < j &&& 4), decide (0 < j &&& 2), decide (0 < j &&& 1))
def okK (k : Ky) : Bool := chkB k.1 k.2.1 k.2.2.1 k.2.2.2
def okL (n : List UInt8) (m : Nat) : List Ky := ((List.range m).map (modK n)).filter okK
def allL (m : Nat) : List Ky := (namesL.take m).flatMap fun n => okL n 8
theorem okL_succ (n : List UInt8) (m : Nat) : okL n (m + 1) = okL n m ++ (if okK (modK n m) = true then [modK n m] else []) := by
  unfold okL
  rw [List.range_succ, List.map_append, List.filter_append, List.map_cons, List.map_nil, List.filter_cons, List.filter_nil]
theorem okL_len (n : List UInt8) (m : Nat) : (okL n m).length ≤ m := by
  unfold okL
  have := List.length_filter_le okK ((List.range m).map (modK n))
  simpa using this
theorem allL_succ {m : Nat} (h : m < namesL.length) : allL (m + 1) = allL m ++ okL (namesL.getD m []) 8 := by
  unfold allL
  rw [List.take_add_one, List.flatMap_append, List.getD_eq_getElem?_getD, List.getElem?_eq_getElem h]
  simp
theorem allL_len (m : Nat) : (allL m).length ≤ 8 * m := by
  induction m with
  | zero => simp [allL]
  | succ m ih =>
    by_cases h : m < namesL.length
    · rw [allL_succ h, List.length_append]
      have := okL_len (namesL.getD m []) 8
      omega
    · have : allL (m + 1) = allL m := by
        unfold allL
        rw [List.take_of_length_le (by omega), List.take_of_length_le (by omega)]
      rw [this]; omega
def AoI (xs : List TV) : Prop := ∃ i : Nat, xs = [.int i, .list ((allL i).map keyQ)] ∧ i ≤ 26
def AiI (i : Nat) (xs : List TV) : Prop := ∃ j : Nat, xs = [.int j, .list ((allL i ++ okL (namesL.getD i []) j).map keyQ)] ∧ j ≤ 8
def Aom (n : Nat) (xs : List TV) : Nat := n - (xs.getD 0 (.int 0)).asInt.toNat
theorem aom_i (n i : Nat) (z : TV) : Aom n [.int (i : Int), z] = n - i := congrArg (n - ·) (Int.toNat_natCast i)
theorem qmc : namesL.length = 26 := by decide +kernel
theorem bits3 : ∀ j : Fin 8, (decide (0 < zbw .i64 (· &&& ·) (j.val : Int) 4) = decide (0 < j.val &&& 4)) ∧ (decide (0 < zbw .i64 (· &&& ·) (j.val : Int) 2) = decide (0 < j.val &&& 2)) ∧ (decide (0 < zbw .i64 (· &&& ·) (j.val : Int) 1) = decide (0 < j.val &&& 1)) := by decide +kernel
theorem key_snoc (l : List Ky) (k : Ky) : TV.list (l.map keyQ ++ [.agg [.str k.1, .int 0, .bool k.2.1, .bool k.2.2.1, .bool k.2.2.2]]) = .list ((l ++ [k]).map keyQ) := by simp [keyQ]
def pallL : Law := ⟨fun ts => ts = [], fun ts z₀ => ts = [] → z₀ = .list ((allL 26).map keyQ)⟩
theorem pall_pre : pallL.pre [] := rfl
theorem pall_fin {z₀ : TV} (h : z₀ = .list ((allL 26).map keyQ)) : pallL.post [] z₀ := fun _ => h
theorem pall_all {Q : TV → Prop} : (∀ z₀, pallL.post [] z₀ → Q z₀) ↔ Q (.list ((allL 26).map keyQ)) := ⟨fun h => h _ fun _ => rfl, fun h z₀ hr => by rw [hr rfl]; exact h⟩
theorem pall_c (k : Nat) : Contract Tryz.prog (mkEnv globT []) gtabU (qkr k) pallL.pre pallL.post := Contract.env (Γ := mkEnv globT [pnmsL, pchkL]) (contract_keyinput_all (fun _ => rfl) (fun s hs => by
    simp only [cx_keyinput_all, List.mem_cons, List.not_mem_nil, or_false] at hs
    rcases hs with rfl | rfl
    · exact Contract.inEnv rfl (pnms_c 0) rfl
    · exact Contract.inEnv rfl (pchk_c 1) rfl) k (by
  rintro ts hl rfl
  have hfin : ∀ z₀ : TV, z₀ = .list ((allL 26).map keyQ) → pallL.post [] z₀ := fun z₀ hz₀ => pall_fin hz₀
  generalize pallL.post [] = R at hfin ⊢
  unfold tr_keyinput_all
  simp only [Tree.den, E.den, P1.den, P2.den, P3.den, qa, qb, qc, qd, qe, qf, qg, qh, zac, zab, zad, zaa, zae, TV.cell, zah, zai, zag, zaf, qi, qj, qk, ql, qm, qn, ne_eq, qo, qp, forall_eq, qs, qt, Int.reduceToNat, qu, exists_eq_left', pnms_all]
  refine ⟨pnms_pre, AoI, Aom 26, ⟨0, by rfl, by omega⟩, ?_⟩
  rintro xs _ ⟨i, rfl, hi⟩
  by_cases h : i < 26
  · have e1 : IntKind.wrap .i64 ((i : Int) + 1) = ((i + 1 : Nat) : Int) := by rw [wrap_i64 (by omega) (by omega)]; omega
    have hg := zvn namesL (i := i) (by rw [qmc]; exact h)
    simp only [Tree.den, E.den, P1.den, P2.den, P3.den, qa, qb, qc, qd, qe, qf, qg, qh, zac, zab, zad, zaa, zae, TV.cell, zah, zai, zag, zaf, qi, qj, qk, ql, qm, qn, ne_eq, qo, qp, forall_eq, qs, qt, Int.reduceToNat, qu, exists_eq_left', zaj, zao, zaq, zan, zap, zam, zal, zar, qv, qq, qr, zak, List.cons_append, List.nil_append, Int.toNat_natCast, zbc, zgq, qmc, hg]
    refine ⟨fun _ => ⟨by omega, by omega, AiI i, Aom 8, ⟨0, by simp [okL], by omega⟩, ?_⟩, fun hh => absurd hh (by omega)⟩
    rintro xs _ ⟨j, rfl, hj⟩
    have hmem : namesL.getD i [] ∈ namesL := by
      rw [List.getD_eq_getElem?_getD, List.getElem?_eq_getElem (by rw [qmc]; exact h)]
      exact List.getElem_mem _
    by_cases h8 : j < 8
    · obtain ⟨b4, b2, b1⟩ := bits3 ⟨j, h8⟩
      dsimp only at b4 b2 b1
      have e2 : IntKind.wrap .i64 ((j : Int) + 1) = ((j + 1 : Nat) : Int) := by rw [wrap_i64 (by omega) (by omega)]; omega
      have q := pchk_pre (n := namesL.getD i []) (c := decide (0 < j &&& 4)) (a := decide (0 < j &&& 2)) (s := decide (0 < j &&& 1)) hmem
      have hs := key_snoc (allL i ++ okL (namesL.getD i []) j) (modK (namesL.getD i []) j)
      have hl1 := allL_len i
      have hl2 := okL_len (namesL.getD i []) j
      have hsc := okL_succ (namesL.getD i []) j
      simp only [Tree.den, E.den, P1.den, P2.den, P3.den, qa, qb, qc, qd, qe, qf, qg, qh, zac, zab, zad, zaa, zae, TV.cell, zah, zai, zag, zaf, qi, qj, qk, ql, qm, qn, ne_eq, qo, qp, forall_eq, qs, qt, Int.reduceToNat, qu, exists_eq_left', List.cons_append, List.nil_append, Int.toNat_natCast, b4, b2, b1, pchk_all, e2]
      refine ⟨fun _ => ⟨q, fun hc => ?_, fun hc => ?_⟩, fun hh => absurd hh (by omega)⟩
      · have hk : okK (modK (namesL.getD i []) j) = true := Classical.byContradiction fun hne => by
          rw [show okK (modK (namesL.getD i []) j) = chkB (namesL.getD i []) (decide (0 < j &&& 4)) (decide (0 < j &&& 2)) (decide (0 < j &&& 1)) from rfl] at hne
          rw [if_neg hne] at hc
          exact absurd hc (by decide)
        rw [if_pos hk] at hsc
        refine ⟨by simp only [List.length_append, List.length_map, List.length_cons, List.length_nil]; omega, ⟨j + 1, ?_, by omega⟩, by rw [aom_i, aom_i]; omega⟩
        rw [hsc, ← List.append_assoc, ← hs]
        rfl
      · have hk : ¬ okK (modK (namesL.getD i []) j) = true := fun hne => by
          rw [show okK (modK (namesL.getD i []) j) = chkB (namesL.getD i []) (decide (0 < j &&& 4)) (decide (0 < j &&& 2)) (decide (0 < j &&& 1)) from rfl] at hne
          rw [if_pos hne] at hc
          exact hc rfl
        rw [if_neg hk, List.append_nil] at hsc
        exact ⟨⟨j + 1, by rw [hsc], by omega⟩, by rw [aom_i, aom_i]; omega⟩
    · obtain rfl : j = 8 := by omega
      simp only [Tree.den, E.den, P1.den, P2.den, P3.den, qa, qb, qc, qd, qe, qf, qg, qh, zac, zab, zad, zaa, zae, TV.cell, zah, zai, zag, zaf, qi, qj, qk, ql, qm, qn, ne_eq, qo, qp, forall_eq, qs, qt, Int.reduceToNat, qu, exists_eq_left', List.cons_append, List.nil_append, e1]
      refine ⟨fun hh => absurd hh (by omega), fun _ => ⟨⟨i + 1, by rw [allL_succ (by rw [qmc]; exact h)], by omega⟩, by rw [aom_i, aom_i]; omega⟩⟩
  · obtain rfl : i = 26 := by omega
    simp only [Tree.den, E.den, P1.den, P2.den, P3.den, qa, qb, qc, qd, qe, qf, qg, qh, zac, zab, zad, zaa, zae, TV.cell, zah, zai, zag, zaf, qi, qj, qk, ql, qm, qn, ne_eq, qo, qp, forall_eq, qs, qt, Int.reduceToNat, qu, exists_eq_left', List.cons_append, List.nil_append, zgq, qmc]
    exact ⟨fun hh => absurd hh (by omega), fun _ => hfin _ rfl⟩)) rfl
def encQ (k : Ky) : List UInt8 := encK k.1 k.2.1 k.2.2.1 k.2.2.2
def ARR : List UInt8 := [65, 66, 67, 68]
def arrN (x : UInt8) : List UInt8 := if x = 65 then [85, 112] else if x = 66 then [68, 111, 119, 110] else if x = 67 then [82, 105, 103, 104, 116] else [76, 101, 102, 116]
def arrP (x : UInt8) : Nat := if x = 65 then 0 else if x = 66 then 8 else if x = 67 then 16 else 24
def K0 : Ky := ([], false, false, false)
theorem all_len : (allL 26).length ≤ 208 ∧ 32 ≤ (allL 26).length := by decide +kernel
theorem all_ok : ∀ k ∈ allL 26, k.1 ∈ namesL ∧ okK k = true ∧ (encQ k).length ≤ 10 := by decide +kernel
theorem arr_at : ∀ x ∈ ARR, (allL 26).getD (arrP x) K0 = (arrN x, false, false, false) ∧ encQ (arrN x, false, false, false) = [27, 91, x] ∧ arrN x ∈ namesL ∧ chkB (arrN x) false false false = true ∧ arrP x < 32 := by decide +kernel
theorem arr_no : ∀ x ∈ ARR, ∀ i : Fin 208, i.val < (allL 26).length → ¬ i.val = arrP x → (encQ ((allL 26).getD i.val K0)).length ≤ 2 ∨ ¬ (encQ ((allL 26).getD i.val K0)).take 3 = [27, 91, x] := by decide +kernel
theorem keyQ_get {l : List Ky} {i : Nat} (h : i < l.length) : (l.map keyQ).getD i (.int 0) = keyQ (l.getD i K0) := by
  rw [List.getD_eq_getElem?_getD, List.getElem?_map, List.getD_eq_getElem?_getD, List.getElem?_eq_getElem h]
  rfl
theorem pre3 {p : List UInt8} {x : UInt8} {t : List UInt8} (h : p.isPrefixOf (27 :: 91 :: x :: t) = true) : p.length ≤ 2 ∨ p.take 3 = [27, 91, x] := by
  have h := List.isPrefixOf_iff_prefix.1 h
  rcases Nat.lt_or_ge p.length 3 with h3 | h3
  · left; omega
  · right
    obtain ⟨q, hq⟩ := h
    have := congrArg (List.take 3) hq
    rw [List.take_append_of_le_length h3] at this
    exact this
def DcI (x : UInt8) (xs : List TV) : Prop := ∃ (i : Nat) (sh : Bool), xs = [.int (if arrP x < i then 3 else 2), .bool sh, .int i, .str (if arrP x < i then arrN x else []), .int (if arrP x < i then 0 else 91), .bool false, .bool (decide (¬ arrP x < i)), .bool false] ∧ i ≤ (allL 26).length
def Dcm (n : Nat) (xs : List TV) : Nat := n - (xs.getD 2 (.int 0)).asInt.toNat
theorem dcm_i (n i : Nat) (a b c d e f g : TV) : Dcm n [a, b, .int (i : Int), c, d, e, f, g] = n - i := congrArg (n - ·) (Int.toNat_natCast i)
def pdecL : Law := ⟨fun ts => ∃ (x : UInt8) (t : List UInt8), ts = [.str (27 :: 91 :: x :: t), .agg [.bool false, .bool false, .bool false, .bool false, .bool false, .bool false, .bool false, .bool false, .int 0, .int 0, .int 0]] ∧ (x ∈ ARR ∧ t.length ≤ 100000), fun ts z₀ => ∀ (x : UInt8) (t : List UInt8), ts = [.str (27 :: 91 :: x :: t), .agg [.bool false, .bool false, .bool false, .bool false, .bool false, .bool false, .bool false, .bool false, .int 0, .int 0, .int 0]] → z₀ = .agg [keyT (arrN x), .int 3, .int 0]⟩
theorem pdec_pre {x : UInt8} {t : List UInt8} (h : x ∈ ARR ∧ t.length ≤ 100000) : pdecL.pre [.str (27 :: 91 :: x :: t), .agg [.bool false, .bool false, .bool false, .bool false, .bool false, .bool false, .bool false, .bool false, .int 0, .int 0, .int 0]] := ⟨x, t, rfl, h⟩
theorem pdec_fin {x : UInt8} {t : List UInt8} {z₀ : TV} (h : z₀ = .agg [keyT (arrN x), .int 3, .int 0]) : pdecL.post [.str (27 :: 91 :: x :: t), .agg [.bool false, .bool false, .bool false, .bool false, .bool false, .bool false, .bool false, .bool false, .int 0, .int 0, .int 0]] z₀ := fun x₁ t₁ e => by
  simp only [List.cons.injEq, TV.str.injEq, TV.int.injEq, TV.bool.injEq, TV.agg.injEq, TV.list.injEq, zat, and_true, true_and, and_assoc] at e; obtain ⟨rfl, rfl⟩ := e
  exact h
theorem pdec_all {x : UInt8} {t : List UInt8} {Q : TV → Prop} : (∀ z₀, pdecL.post [.str (27 :: 91 :: x :: t), .agg [.bool false, .bool false, .bool false, .bool false, .bool false, .bool false, .bool false, .bool false, .int 0, .int 0, .int 0]] z₀ → Q z₀) ↔ Q (.agg [keyT (arrN x), .int 3, .int 0]) := ⟨fun h => h _ (pdec_fin rfl), fun h z₀ hr => by rw [hr _ _ rfl]; exact h⟩
set_option maxHeartbeats 1000000 in
theorem pdec_c (k : Nat) : Contract Tryz.prog (mkEnv globT []) gtabU (qjy k) pdecL.pre pdecL.post := Contract.env (Γ := mkEnv globT [hpL, pcutL, pfulL, pencL, psglL, pallL]) (contract_keyinput_Decode (fun _ => rfl) (fun s hs => by
    simp only [cx_keyinput_Decode, List.mem_cons, List.not_mem_nil, or_false] at hs
    rcases hs with rfl | rfl | rfl | rfl | rfl | rfl
    · exact Contract.inEnv rfl ((hp_c 0).gt za3) rfl
    · exact Contract.inEnv rfl (pcut_c 1) rfl
    · exact Contract.inEnv rfl (pful_c 2) rfl
    · exact Contract.inEnv rfl (penc_c 3) rfl
    · exact Contract.inEnv rfl (psgl_c 4) rfl
    · exact Contract.inEnv rfl (pall_c 5) rfl) k (by
  rintro ts hl ⟨x, t, rfl, hp⟩
  have hfin : ∀ z₀ : TV, z₀ = .agg [keyT (arrN x), .int 3, .int 0] → pdecL.post [.str (27 :: 91 :: x :: t), .agg [.bool false, .bool false, .bool false, .bool false, .bool false, .bool false, .bool false, .bool false, .int 0, .int 0, .int 0]] z₀ := fun z₀ hz₀ => pdec_fin hz₀
  generalize pdecL.post [.str (27 :: 91 :: x :: t), .agg [.bool false, .bool false, .bool false, .bool false, .bool false, .bool false, .bool false, .bool false, .int 0, .int 0, .int 0]] = R at hfin ⊢
  unfold tr_keyinput_Decode
  obtain ⟨hx, ht⟩ := hp
  obtain ⟨hA1, hA2, hA3, hA4, hA5⟩ := arr_at x hx
  have hN := all_len
  have e3 : ¬ (27 :: 91 :: x :: t) = [] := by simp
  have i1 : (if (27 : UInt8) = 91 then (91 : Int) else 0) = 0 := by decide
  have i2 : (if (27 : UInt8) = 91 then (1 : Int) else 0) = 0 := by decide
  have i3 : (if (91 : UInt8) = 91 then (91 : Int) else 0) = 91 := by decide
  have i4 : (if (91 : UInt8) = 91 then (1 : Int) else 0) = 1 := by decide
  have q1 := psgl_pre (b := 27) (t := 91 :: x :: t) (.inl rfl)
  have q2 := pcut_pre (t := 91 :: x :: t) (by simp only [List.length_cons]; omega)
  have q3 := psgl_pre (b := 91) (t := x :: t) (.inr rfl)
  have q4 := pful_pre (t := 91 :: x :: t) trivial
  simp only [Tree.den, E.den, P1.den, P2.den, P3.den, qa, qb, qc, qd, qe, qf, qg, qh, zac, zab, zad, zaa, zae, TV.cell, zah, zai, zag, zaf, qi, qj, qk, ql, qm, qn, ne_eq, qo, qp, forall_eq, qs, qt, Int.reduceToNat, qu, exists_eq_left', psgl_all, pcut_all, pful_all, pall_all, i1, i2, i3, i4, e3]
  refine ⟨q1, q2, fun _ => ⟨q3, fun _ => ⟨False.elim, fun _ => ⟨q4, pall_pre, DcI x, Dcm (allL 26).length, ⟨0, false, ?_, by omega⟩, ?_⟩⟩, fun h => absurd (by decide) h⟩, False.elim⟩
  · rw [if_pos trivial, if_pos trivial, if_neg (Nat.not_lt_zero _), if_neg (Nat.not_lt_zero _), if_neg (Nat.not_lt_zero _), decide_eq_true (Nat.not_lt_zero _)]
    rfl
  · clear q1 q2 q3 q4
    rintro xs _ ⟨i, sh, rfl, hi⟩
    by_cases hil : i < (allL 26).length
    · have hg := keyQ_get hil
      obtain ⟨hok1, hok2, hok3⟩ := all_ok ((allL 26).getD i K0) (by
        rw [List.getD_eq_getElem?_getD, List.getElem?_eq_getElem hil]
        exact List.getElem_mem _)
      have hno := arr_no x hx ⟨i, by omega⟩ hil
      dsimp only at hno
      have e1 : IntKind.wrap .i64 ((i : Int) + 1) = ((i + 1 : Nat) : Int) := by rw [wrap_i64 (by omega) (by omega)]; omega
      have harr : i = arrP x → (allL 26).getD i K0 = (arrN x, false, false, false) := by rintro rfl; exact hA1
      obtain ⟨n', c', a', s', hkk⟩ : ∃ n c a s, (allL 26).getD i K0 = (n, c, a, s) := ⟨_, _, _, _, rfl⟩
      rw [hkk] at hok1 hok2 hok3 harr hno hg
      unfold encQ at hok3 hno
      unfold okK at hok2
      rw [show keyQ (n', c', a', s') = .agg [.str n', .int 0, .bool c', .bool a', .bool s'] from rfl] at hg
      dsimp only at hok1 hok2 hok3 hno
      have q5 := penc_pre (n := n') (c := c') (a := a') (s := s') ⟨hok1, hok2⟩
      have q6 := z90 (s := 27 :: 91 :: x :: t) (p := encK n' c' a' s') (by simp only [List.length_cons]; omega)
      have q7 := z90 (s := encK n' c' a' s') (p := 27 :: 91 :: x :: t) (by omega)
      have hD : ∀ (a b c d e f g h b' c' d' e' f' g' : TV), Dcm (allL 26).length [a, b, .int ((i + 1 : Nat) : Int), c, d, e, f, g] < Dcm (allL 26).length [h, b', .int (i : Int), c', d', e', f', g'] := fun a b c d e f g h b' c' d' e' f' g' => by rw [dcm_i, dcm_i]; omega
      by_cases hia : i = arrP x
      · have hq := harr hia
        simp only [Prod.mk.injEq] at hq
        obtain ⟨rfl, rfl, rfl, rfl⟩ := hq
        have hE : encK (arrN x) false false false = [27, 91, x] := hA2
        have hpf : ([27, 91, x] : List UInt8).isPrefixOf (27 :: 91 :: x :: t) = true := by simp
        have go : ∀ b : Bool, DcI x [.int 3, .bool b, .int ((i + 1 : Nat) : Int), .str (arrN x), .int 0, .bool false, .bool false, .bool false] := fun b => ⟨i + 1, b, by rw [if_pos (by omega), if_pos (by omega), if_pos (by omega), decide_eq_false (by omega)], by omega⟩
        rw [hE] at q6 q7
        have n1 : ¬ arrP x < i := by omega
        simp only [Tree.den, E.den, P1.den, P2.den, P3.den, qa, qb, qc, qd, qe, qf, qg, qh, zac, zab, zad, zaa, zae, TV.cell, zah, zai, zag, zaf, qi, qj, qk, ql, qm, qn, ne_eq, qo, qp, forall_eq, qs, qt, Int.reduceToNat, qu, exists_eq_left', zaj, zao, zaq, zan, zap, zam, zal, zar, qv, qq, qr, zak, List.cons_append, List.nil_append, Int.toNat_natCast, List.length_map, hg, keyQ, penc_all, hp_all, hE, hpf, e1]
        rw [if_neg n1, if_neg n1, if_neg n1]
        exact ⟨fun _ => ⟨by omega, by omega, q5, q6, fun _ => ⟨fun _ => ⟨fun _ => ⟨go _, hD _ _ _ _ _ _ _ _ _ _ _ _ _ _⟩, fun _ => ⟨q7, go _, hD _ _ _ _ _ _ _ _ _ _ _ _ _ _⟩⟩, fun hh => absurd (by decide) hh⟩, fun hh => absurd hh (by simp)⟩, fun hh => absurd hh (by omega)⟩
      · have hno := hno hia
        have hsh : (encK n' c' a' s').isPrefixOf (27 :: 91 :: x :: t) = true → (encK n' c' a' s').length ≤ 2 := fun h => by
          rcases hno with h1 | h1
          · exact h1
          · rcases pre3 h with h2 | h2
            · exact h2
            · exact absurd h2 h1
        have hii : (arrP x < i) = (arrP x < i + 1) := propext (by omega)
        have go : ∀ b : Bool, DcI x [.int (if arrP x < i then 3 else 2), .bool b, .int ((i + 1 : Nat) : Int), .str (if arrP x < i then arrN x else []), .int (if arrP x < i then 0 else 91), .bool false, .bool (decide (¬ arrP x < i)), .bool false] := fun b => ⟨i + 1, b, by simp only [hii], by omega⟩
        have h2 : (2 : Int) ≤ (if arrP x < i then 3 else 2) := by split <;> omega
        simp only [Tree.den, E.den, P1.den, P2.den, P3.den, qa, qb, qc, qd, qe, qf, qg, qh, zac, zab, zad, zaa, zae, TV.cell, zah, zai, zag, zaf, qi, qj, qk, ql, qm, qn, ne_eq, qo, qp, forall_eq, qs, qt, Int.reduceToNat, qu, exists_eq_left', zaj, zao, zaq, zan, zap, zam, zal, zar, qv, qq, qr, zak, List.cons_append, List.nil_append, Int.toNat_natCast, List.length_map, hg, keyQ, penc_all, hp_all, e1]
        exact ⟨fun _ => ⟨by omega, by omega, q5, q6, fun hp1 => ⟨fun hlt => absurd (hsh hp1) (by omega), fun _ => ⟨fun _ => ⟨go _, hD _ _ _ _ _ _ _ _ _ _ _ _ _ _⟩, fun _ => ⟨q7, go _, hD _ _ _ _ _ _ _ _ _ _ _ _ _ _⟩⟩⟩, fun _ => ⟨fun _ => ⟨go _, hD _ _ _ _ _ _ _ _ _ _ _ _ _ _⟩, fun _ => ⟨q7, go _, hD _ _ _ _ _ _ _ _ _ _ _ _ _ _⟩⟩⟩, fun hh => absurd hh (by omega)⟩
    · have n1 : arrP x < i := by omega
      simp only [Tree.den, E.den, P1.den, P2.den, P3.den, qa, qb, qc, qd, qe, qf, qg, qh, zac, zab, zad, zaa, zae, TV.cell, zah, zai, zag, zaf, qi, qj, qk, ql, qm, qn, ne_eq, qo, qp, forall_eq, qs, qt, Int.reduceToNat, qu, exists_eq_left', List.cons_append, List.nil_append, List.length_map]
      rw [if_pos n1, if_pos n1, if_pos n1, decide_eq_false (fun h => h n1)]
      exact ⟨fun hh => absurd hh (by omega), fun _ => ⟨fun _ => hfin _ rfl, fun hh => absurd (by decide) hh⟩⟩)) rfl
end Go.Proofs.YtlhagkbhojmjpaaGreatDoor

