/- The laws of chapter 03: Independence, RoundTrip, Marks; the tables, laid. -/
import Derived.Test.YtnbbepgmnbmfdaaDoorClx
namespace Go.Proofs.YtnbbepgmnbmfdaaDoor
set_option linter.unusedSimpArgs false
set_option linter.unusedVariables false
set_option linter.unusedSectionVars false

def DIx (b : List Int) (xs : List TV) : Prop := ∃ k : Nat, xs = [.int k] ∧ k ≤ b.length ∧ ∀ x ∈ b.take k, widthZ x < 0
def Dm' (b : List Int) (xs : List TV) : Nat := b.length - (xs.getD 0 (.int 0)).asInt.toNat
theorem lawIndep_c (k : Nat) : Contract Tryd.prog (mkEnv globT []) gtab (sn_law03_ClusterIndependence k) (trueL runes2P).pre (trueL runes2P).post := Contract.env (Γ := mkEnv globT [markL, widthL, splitL, samesL, awakeL]) (contract_law03_ClusterIndependence (fun _ => rfl) (fun s hs => by
    simp only [cx_law03_ClusterIndependence, List.mem_cons, List.not_mem_nil, or_false] at hs
    rcases hs with rfl | rfl | rfl | rfl | rfl
    · exact Contract.inEnv rfl (mark_c 0) rfl
    · exact Contract.inEnv rfl (width_c 1) rfl
    · exact Contract.inEnv rfl (split_c 2) rfl
    · exact Contract.inEnv rfl (sames_c 3) rfl
    · exact Contract.inEnv rfl (awake_c 4) rfl) k (by
  rintro ts hl ⟨a, b, rfl, hra, hrb⟩
  unfold tr_law03_ClusterIndependence
  have hrab : Run (a ++ b) := fun n hn => by
    rcases List.mem_append.1 hn with hn | hn
    · exact hra n hn
    · exact hrb n hn
  have hsa := split_len a
  have hsb := split_len b
  have hsab := split_len (a ++ b)
  rw [List.length_append] at hsab
  simp only [Tree.den, E.den, P1.den, P2.den, P3.den, List.map_cons, List.map_nil, List.cons_append, List.nil_append, List.getD_cons_zero, List.getD_cons_succ, List.getElem?_cons_zero, List.getElem?_cons_succ, asInt_int, asBool_bool, asStr_str, asList_list, cells_agg, TV.cell, pre_zero, pre_succ, post_zero, post_succ, decide_eq_true_eq, decide_eq_false_iff_not, beq_iff_eq, beq_eq_false_iff_ne, Bool.not_eq_true', Bool.not_eq_false', ne_eq, List.length_cons, List.length_nil, forall_eq, Bool.false_eq_true, Bool.true_eq_false, Int.reduceToNat, Option.some.injEq, exists_eq_left', awake_all]
  simp only [Tree.den, E.den, P1.den, P2.den, P3.den, List.map_cons, List.map_nil, List.cons_append, List.nil_append, List.getD_cons_zero, List.getD_cons_succ, List.getElem?_cons_zero, List.getElem?_cons_succ, asInt_int, asBool_bool, asStr_str, asList_list, cells_agg, TV.cell, pre_zero, pre_succ, post_zero, post_succ, decide_eq_true_eq, decide_eq_false_iff_not, beq_iff_eq, beq_eq_false_iff_ne, Bool.not_eq_true', Bool.not_eq_false', ne_eq, List.length_cons, List.length_nil, forall_eq, Bool.false_eq_true, Bool.true_eq_false, Int.reduceToNat, Option.some.injEq, exists_eq_left', ints_asList, map_snoc, map_app, list_map, ints_nil, ints_get, ints_len, bs_get, Int.toNat_natCast, List.length_append, List.length_map, bs_length, awake_all]
  refine ⟨fun _ => ⟨awake_pre, rfl⟩, fun ha => ⟨fun _ => ⟨awake_pre, rfl⟩, fun hb => ⟨DIx b, Dm' b, ⟨0, rfl, by omega, fun x hx => by simp at hx⟩, ?_⟩⟩⟩
  rintro xs _ ⟨k, rfl, hk, hctrl⟩
  have hD : Dm' b [.int (k : Int)] = b.length - k := rfl
  have e64 : IntKind.wrap .i64 ((k : Int) + 1) = ((k + 1 : Nat) : Int) := by rw [wrap_i64 (n := (k : Int) + 1) (by omega) (by omega)]; omega
  have hapS : ∀ x y : List (List UInt8), TV.list (x.map TV.str ++ y.map TV.str) = strs (x ++ y) := fun x y => by unfold strs; rw [List.map_append]
  simp only [Tree.den, E.den, P1.den, P2.den, P3.den, List.map_cons, List.map_nil, List.cons_append, List.nil_append, List.getD_cons_zero, List.getD_cons_succ, List.getElem?_cons_zero, List.getElem?_cons_succ, asInt_int, asBool_bool, asStr_str, asList_list, cells_agg, TV.cell, pre_zero, pre_succ, post_zero, post_succ, decide_eq_true_eq, decide_eq_false_iff_not, beq_iff_eq, beq_eq_false_iff_ne, Bool.not_eq_true', Bool.not_eq_false', ne_eq, List.length_cons, List.length_nil, forall_eq, Bool.false_eq_true, Bool.true_eq_false, Int.reduceToNat, Option.some.injEq, exists_eq_left', ints_asList, map_snoc, map_app, list_map, ints_nil, ints_get, ints_len, bs_get, Int.toNat_natCast, List.length_append, List.length_map, bs_length, awake_all, hD, e64, mark_all, width_all, split_all, strs_asList, hapS, sames_all]
  have tail : splitZ (a ++ b) = splitZ a ++ splitZ b → 0 ≤ 1 → splitL.pre [ints a] ∧ ((splitZ a).length : Int) ≤ 1099511627776 := fun _ _ => ⟨split_pre ⟨hra, by omega⟩, by omega⟩
  have heq : splitZ (a ++ b) = splitZ a ++ splitZ b → (splitZ (a ++ b)).map encS = (splitZ a).map encS ++ (splitZ b).map encS := fun h => by rw [h, List.map_append]
  refine ⟨fun hlt => ⟨by omega, by omega, mark_pre trivial, ?_⟩, fun hlt => ?_⟩
  · have hkb : k < b.length := by omega
    have hts := take_snoc hkb
    have hsplit : b = b.take k ++ b.getD k 0 :: b.drop (k + 1) := by
      conv => lhs; rw [← List.take_append_drop k b]
      rw [List.drop_eq_getElem_cons hkb, List.getD_eq_getElem?_getD, List.getElem?_eq_getElem hkb]
      rfl
    generalize b.getD k 0 = r at *
    refine ⟨fun hm => ⟨by omega, by omega, mark_pre trivial, fun _ => ⟨awake_pre, rfl⟩, fun h => (by rw [hm] at h; cases h)⟩, fun hm => ⟨by omega, by omega, width_pre trivial, fun hw => ⟨by omega, by omega, mark_pre trivial, fun h => (by rw [hm] at h; cases h), fun _ => ⟨⟨k + 1, rfl, by omega, fun x hx => ?_⟩, ?_⟩⟩, fun hw => ?_⟩⟩
    · rw [hts] at hx
      rcases List.mem_append.1 hx with hx | hx
      · exact hctrl x hx
      · simp at hx; subst hx; exact hw
    · simp only [Dm', List.getD_cons_zero, asInt_int]; omega
    · have hpos : 0 < widthZ r := by
        rcases width_cases r with ⟨h1, h2⟩ | ⟨h1, h2⟩ | ⟨h1, h2, h3⟩
        · omega
        · rw [h2] at hm; cases hm
        · omega
      have hs : splitZ (a ++ b) = splitZ a ++ splitZ b := by
        have := split_indep a hctrl hpos (c := b.drop (k + 1))
        rw [← hsplit] at this
        exact this
      refine ⟨by omega, by omega, split_pre ⟨hra, by omega⟩, by omega, split_pre ⟨hrb, by omega⟩, by omega, split_pre ⟨hrab, by rw [List.length_append]; omega⟩, sames_pre (by rw [List.length_map]; omega), fun _ => ⟨awake_pre, rfl⟩, fun h => ?_⟩
      exact absurd (heq hs) h
  · have hkk : k = b.length := by omega
    rw [hkk, List.take_of_length_le (Nat.le_refl _)] at hctrl
    have hs := split_indep' a hctrl
    refine ⟨by omega, by omega, split_pre ⟨hra, by omega⟩, by omega, split_pre ⟨hrb, by omega⟩, by omega, split_pre ⟨hrab, by rw [List.length_append]; omega⟩, sames_pre (by rw [List.length_map]; omega), fun _ => ⟨awake_pre, rfl⟩, fun h => ?_⟩
    exact absurd (heq hs) h)) rfl

/-! ### Round trip -/
theorem round_facts {s : List UInt8} (hz : checkZ s = 0) : ∃ (b : Int) (ms : List Int), ms.length ≤ 3 ∧ baseS s = b ∧ marksS s = ms ∧ widthS s = widthZ b ∧ encS (b :: ms) = s ∧ Chars (b :: ms) ∧ (splitZ (b :: ms)).map encS = [s] := by
  obtain ⟨hv, hcl⟩ := check_iff.1 hz
  obtain ⟨b, ms, e, h1, h2, h3⟩ := hcl
  have hen := encS_runes hv
  have hch := runes_ch s
  rw [e] at hen hch
  refine ⟨b, ms, h3, ?_, ?_, ?_, hen, hch, ?_⟩
  · unfold baseS; rw [if_pos hz, e]; rfl
  · unfold marksS; rw [if_pos hz, e]; rfl
  · unfold widthS; rw [if_pos hz, e]; rfl
  · have := splitF_cl (c := b :: ms) ⟨b, ms, rfl, h1, h2, h3⟩ []
    unfold splitZ
    rw [this, List.nil_append, List.map_cons, List.map_nil, hen]
theorem asBoolN (b : Bool) : (TV.bool b).asBool = b := by cases b <;> rfl
theorem lawRound_c (k : Nat) : Contract Tryd.prog (mkEnv globT []) gtab (sn_law03_ClusterRoundTrip k) (trueL strP).pre (trueL strP).post := Contract.env (Γ := mkEnv globT [encL, widthL, checkL, marksL, baseL, cwidthL, splitL, samesL, awakeL]) (contract_law03_ClusterRoundTrip (fun _ => rfl) (fun s hs => by
    simp only [cx_law03_ClusterRoundTrip, List.mem_cons, List.not_mem_nil, or_false] at hs
    rcases hs with rfl | rfl | rfl | rfl | rfl | rfl | rfl | rfl | rfl
    · exact Contract.inEnv rfl (enc_c 0) rfl
    · exact Contract.inEnv rfl (width_c 1) rfl
    · exact Contract.inEnv rfl (check_c 2) rfl
    · exact Contract.inEnv rfl (marks_c 3) rfl
    · exact Contract.inEnv rfl (base_c 4) rfl
    · exact Contract.inEnv rfl (cwidth_c 5) rfl
    · exact Contract.inEnv rfl (split_c 6) rfl
    · exact Contract.inEnv rfl (sames_c 7) rfl
    · exact Contract.inEnv rfl (awake_c 8) rfl) k (by
  rintro ts hl ⟨s, rfl, _⟩
  unfold tr_law03_ClusterRoundTrip
  by_cases hz : checkZ s = 0
  · obtain ⟨b, ms, h3, hb, hmk, hwS, hen, hch, hsp⟩ := round_facts hz
    have l1 : TV.list [.str s] = strs [s] := rfl
    have hlc : ∀ m : List Int, TV.int b :: m.map TV.int = (b :: m).map TV.int := fun _ => rfl
    have hl1 : TV.list [.int b] = ints [b] := rfl
    simp only [Tree.den, E.den, P1.den, P2.den, P3.den, List.map_cons, List.map_nil, List.cons_append, List.nil_append, List.getD_cons_zero, List.getD_cons_succ, List.getElem?_cons_zero, List.getElem?_cons_succ, asInt_int, asBoolN, asStr_str, asList_list, cells_agg, TV.cell, pre_zero, pre_succ, post_zero, post_succ, decide_eq_true_eq, decide_eq_false_iff_not, beq_iff_eq, beq_eq_false_iff_ne, Bool.not_eq_true', Bool.not_eq_false', ne_eq, List.length_cons, List.length_nil, forall_eq, Bool.false_eq_true, Bool.true_eq_false, Int.reduceToNat, Option.some.injEq, exists_eq_left', awake_all, check_all, base_all, marks_all]
    rw [hz, hb, hmk]
    simp only [ints_asList, hlc, list_map, List.length_cons, List.length_map]
    simp only [enc_all, encS_def, hen]
    simp only [Tree.den, E.den, P1.den, P2.den, P3.den, List.map_cons, List.map_nil, List.cons_append, List.nil_append, List.getD_cons_zero, List.getD_cons_succ, List.getElem?_cons_zero, List.getElem?_cons_succ, asInt_int, asBoolN, asStr_str, asList_list, cells_agg, TV.cell, pre_zero, pre_succ, post_zero, post_succ, decide_eq_true_eq, decide_eq_false_iff_not, beq_iff_eq, beq_eq_false_iff_ne, Bool.not_eq_true', Bool.not_eq_false', ne_eq, List.length_cons, List.length_nil, forall_eq, Bool.false_eq_true, Bool.true_eq_false, Int.reduceToNat, Option.some.injEq, exists_eq_left', ints_asList, map_snoc, map_app, list_map, ints_nil, ints_get, ints_len, bs_get, Int.toNat_natCast, List.length_append, List.length_map, bs_length, awake_all, split_all, hsp, l1, sames_all, cwidth_all, width_all, hwS]
    simp only [and_self]
    refine ⟨fun _ => ⟨awake_pre, rfl⟩, fun h200 => ⟨check_pre (by omega), fun h => absurd trivial h, fun _ => ⟨base_pre (by omega), marks_pre (by omega), ?_⟩⟩⟩
    have key : encL.pre [ints (b :: ms)] := enc_pre ⟨hch.run, by rw [List.length_cons]; omega⟩
    have k2 : splitL.pre [ints (b :: ms)] := split_pre ⟨hch.run, by rw [List.length_cons]; omega⟩
    have k3 : samesL.pre [strs [s], strs [s]] := sames_pre (by simp)
    have k4 : cwidthL.pre [.str s] := cwidth_pre (by omega)
    have k5 : widthL.pre [.int b] := width_pre trivial
    repeat' (first
      | exact rfl
      | exact awake_pre
      | assumption
      | (intro h; (try (exfalso; simp at h; done)))
      | (refine ⟨?_, ?_⟩)
      | omega)
  · simp only [Tree.den, E.den, P1.den, P2.den, P3.den, List.map_cons, List.map_nil, List.cons_append, List.nil_append, List.getD_cons_zero, List.getD_cons_succ, List.getElem?_cons_zero, List.getElem?_cons_succ, asInt_int, asBoolN, asStr_str, asList_list, cells_agg, TV.cell, pre_zero, pre_succ, post_zero, post_succ, decide_eq_true_eq, decide_eq_false_iff_not, beq_iff_eq, beq_eq_false_iff_ne, Bool.not_eq_true', Bool.not_eq_false', ne_eq, List.length_cons, List.length_nil, forall_eq, Bool.false_eq_true, Bool.true_eq_false, Int.reduceToNat, Option.some.injEq, exists_eq_left', awake_all, check_all, base_all, marks_all]
    exact ⟨fun _ => ⟨awake_pre, rfl⟩, fun h200 => ⟨check_pre (by omega), fun _ => ⟨awake_pre, rfl⟩, fun h => absurd h hz⟩⟩)) rfl

/-! ### Marks one after the other -/
theorem splitF_take : ∀ (ms : List Int) (c : List Int), (∀ m ∈ ms, markZ m = true) → 1 ≤ c.length → c.length ≤ 4 → splitF [c] ms = [c ++ ms.take (4 - c.length)]
  | [], c, _, _, _ => by simp [splitF]
  | m :: ms, c, h, h1, h4 => by
    have e : splitF [c] (m :: ms) = splitF (stepS ([] ++ [c]) m) ms := rfl
    by_cases hl : c.length ≤ 3
    · rw [e, step_mark (h m (by simp)) hl, List.nil_append, splitF_take ms (c ++ [m]) (fun x hx => h x (by simp [hx])) (by simp) (by simp; omega)]
      have : 4 - c.length = (4 - (c ++ [m]).length) + 1 := by simp; omega
      rw [this, List.take_succ_cons]
      simp
    · rw [e, step_full (h m (by simp)) hl, List.nil_append, splitF_take ms c (fun x hx => h x (by simp [hx])) h1 h4]
      have : 4 - c.length = 0 := by omega
      rw [this]
      simp
theorem split_take {b : Int} {ms : List Int} (hb : 0 < widthZ b) (hm : ∀ m ∈ ms, markZ m = true) : splitZ (b :: ms) = [b :: ms.take 3] := by
  have e : splitZ (b :: ms) = splitF (stepS [] b) ms := rfl
  rw [e, step_base hb, List.nil_append, splitF_take ms [b] hm (by simp) (by simp)]
  rfl
theorem cl_take {b : Int} {ms : List Int} (hb : 0 < widthZ b) (hm : ∀ m ∈ ms, markZ m = true) : Cl (b :: ms.take 3) :=
  ⟨b, ms.take 3, rfl, hb, fun m h => hm m (List.mem_of_mem_take h), by rw [List.length_take]; omega⟩
theorem marks_encS {c : List Int} (h : Cl c) : (marksS (encS c)).length = c.length - 1 := by
  unfold marksS
  rw [if_pos (check_encS h), runes_encS, List.length_drop, List.length_map]
def AI (b : Int) (l : List Int) (xs : List TV) : Prop := ∃ (k : Nat) (ms : List Int), xs = [.str (encS (b :: ms.take 3)), .int k, ints (b :: ms)] ∧ k ≤ l.length ∧ (∀ m ∈ ms, markZ m = true) ∧ ms.length ≤ k
def Am (l : List Int) (xs : List TV) : Nat := l.length - (xs.getD 1 (.int 0)).asInt.toNat
theorem lawMarks_c (k : Nat) : Contract Tryd.prog (mkEnv globT []) gtab (sn_law03_ClusterMarks k) (trueL runeRunesP).pre (trueL runeRunesP).post := Contract.env (Γ := mkEnv globT [encL, markL, widthL, attachL, splitL, samesL, awakeL]) (contract_law03_ClusterMarks (fun _ => rfl) (fun s hs => by
    simp only [cx_law03_ClusterMarks, List.mem_cons, List.not_mem_nil, or_false] at hs
    rcases hs with rfl | rfl | rfl | rfl | rfl | rfl | rfl
    · exact Contract.inEnv rfl (enc_c 0) rfl
    · exact Contract.inEnv rfl (mark_c 1) rfl
    · exact Contract.inEnv rfl (width_c 2) rfl
    · exact Contract.inEnv rfl (attach_c 3) rfl
    · exact Contract.inEnv rfl (split_c 4) rfl
    · exact Contract.inEnv rfl (sames_c 5) rfl
    · exact Contract.inEnv rfl (awake_c 6) rfl) k (by
  rintro ts hl ⟨b, l, rfl, hb0, hb1, hr⟩
  unfold tr_law03_ClusterMarks
  have l1 : TV.list [.int b] = ints [b] := rfl
  simp only [Tree.den, E.den, P1.den, P2.den, P3.den, List.map_cons, List.map_nil, List.cons_append, List.nil_append, List.getD_cons_zero, List.getD_cons_succ, List.getElem?_cons_zero, List.getElem?_cons_succ, asInt_int, asBool_bool, asStr_str, asList_list, cells_agg, TV.cell, pre_zero, pre_succ, post_zero, post_succ, decide_eq_true_eq, decide_eq_false_iff_not, beq_iff_eq, beq_eq_false_iff_ne, Bool.not_eq_true', Bool.not_eq_false', ne_eq, List.length_cons, List.length_nil, forall_eq, Bool.false_eq_true, Bool.true_eq_false, Int.reduceToNat, Option.some.injEq, exists_eq_left', awake_all, mark_all, width_all, l1, enc_all, encS_def]
  simp only [Tree.den, E.den, P1.den, P2.den, P3.den, List.map_cons, List.map_nil, List.cons_append, List.nil_append, List.getD_cons_zero, List.getD_cons_succ, List.getElem?_cons_zero, List.getElem?_cons_succ, asInt_int, asBool_bool, asStr_str, asList_list, cells_agg, TV.cell, pre_zero, pre_succ, post_zero, post_succ, decide_eq_true_eq, decide_eq_false_iff_not, beq_iff_eq, beq_eq_false_iff_ne, Bool.not_eq_true', Bool.not_eq_false', ne_eq, List.length_cons, List.length_nil, forall_eq, Bool.false_eq_true, Bool.true_eq_false, Int.reduceToNat, Option.some.injEq, exists_eq_left', ints_asList, map_snoc, map_app, list_map, ints_nil, ints_get, ints_len, bs_get, Int.toNat_natCast, List.length_append, List.length_map, bs_length, awake_all]
  refine ⟨fun _ => ⟨awake_pre, rfl⟩, fun h20 => ⟨mark_pre trivial, fun _ => ⟨awake_pre, rfl⟩, fun hm => ⟨width_pre trivial, fun _ => ⟨awake_pre, rfl⟩, fun hw => ⟨enc_pre ⟨run_one ⟨hb0, hb1⟩, by simp⟩, AI b l, Am l, ⟨0, [], rfl, by omega, fun m h => (by cases h), by simp⟩, ?_⟩⟩⟩⟩
  rintro xs _ ⟨k, ms, rfl, hk, hms, hlen⟩
  have hbw : 0 < widthZ b := by omega
  have hD : ∀ a c, Am l [a, .int (k : Int), c] = l.length - k := fun a c => rfl
  have e64 : IntKind.wrap .i64 ((k : Int) + 1) = ((k + 1 : Nat) : Int) := by rw [wrap_i64 (n := (k : Int) + 1) (by omega) (by omega)]; omega
  have hcl := cl_take hbw hms
  have hcln := hcl.len
  have hck := check_encS hcl
  have hmk := marks_encS hcl
  have hel := (encS_len (b :: ms.take 3)).2
  have hml : (ms.take 3).length = min 3 ms.length := List.length_take
  have hrb : Run (b :: ms) := fun n hn => by
    rcases List.mem_cons.1 hn with rfl | hn
    · exact ⟨hb0, hb1⟩
    · have := mark_ge (hms n hn); omega
  have hst := split_take hbw hms
  have hsp : (splitZ (b :: ms)).map encS = [encS (b :: ms.take 3)] := by rw [hst]; rfl
  rw [List.length_cons] at hmk hel
  by_cases hkl : k < l.length
  · have hrr := hr _ (getD_mem hkl)
    generalize hrd : l.getD k 0 = r at *
    by_cases hmr : markZ r = true
    · have hatt : attachT (encS (b :: ms.take 3)) r = if 3 ≤ (ms.take 3).length then .agg [.str [], .int 5] else .agg [.str (encS (b :: ms.take 3) ++ encS [r]), .int 0] := by
        unfold attachT
        rw [if_pos hck, if_pos hmr, hmk]
        rfl
      have hms' : ∀ m ∈ ms ++ [r], markZ m = true := fun m h => by
        rcases List.mem_append.1 h with h | h
        · exact hms m h
        · simp at h; subst h; exact hmr
      have go : ∀ c, c = encS (b :: (ms ++ [r]).take 3) → AI b l [.str c, .int ((k + 1 : Nat) : Int), ints (b :: (ms ++ [r]))] ∧ Am l [.str c, .int ((k + 1 : Nat) : Int), ints (b :: (ms ++ [r]))] < l.length - k := fun c hc => by
        refine ⟨⟨k + 1, ms ++ [r], by rw [hc], by omega, hms', by simp; omega⟩, ?_⟩
        simp only [Am, List.getD_cons_zero, List.getD_cons_succ, asInt_int]; omega
      have lc : ∀ (a : Int) (m : List Int), TV.int a :: m.map TV.int = (a :: m).map TV.int := fun _ _ => rfl
      by_cases h3 : 3 ≤ (ms.take 3).length
      · rw [if_pos h3] at hatt
        simp only [Tree.den, E.den, P1.den, P2.den, P3.den, List.map_cons, List.map_nil, List.cons_append, List.nil_append, List.getD_cons_zero, List.getD_cons_succ, List.getElem?_cons_zero, List.getElem?_cons_succ, asInt_int, asBool_bool, asStr_str, asList_list, cells_agg, TV.cell, pre_zero, pre_succ, post_zero, post_succ, decide_eq_true_eq, decide_eq_false_iff_not, beq_iff_eq, beq_eq_false_iff_ne, Bool.not_eq_true', Bool.not_eq_false', ne_eq, List.length_cons, List.length_nil, forall_eq, Bool.false_eq_true, Bool.true_eq_false, Int.reduceToNat, Option.some.injEq, exists_eq_left', ints_asList, map_snoc, map_app, list_map, ints_nil, ints_get, ints_len, bs_get, Int.toNat_natCast, List.length_append, List.length_map, bs_length, awake_all, hD, e64, hrd, mark_all, hmr, attach_all, hatt]
        simp only [lc, map_app, list_map, List.cons_append]
        have hgo := go (encS (b :: ms.take 3)) (by rw [List.take_append_of_le_length (by omega)])
        have hbig : ¬ ((ms.length + 1 + (0 + 1) : Nat) : Int) ≤ 4 := by omega
        have hbig' : decide (((ms.length + 1 + (0 + 1) : Nat) : Int) ≤ 4) = false := decide_eq_false hbig
        refine ⟨fun _ => ⟨by omega, by omega, mark_pre trivial, fun h => (by simp at h), fun _ => ⟨by omega, by omega, by omega, by omega, by omega, attach_pre ⟨by omega, hrr⟩, fun h => ?_, fun _ => ⟨fun _ => ⟨fun h => absurd trivial h, fun _ => ⟨fun h => absurd h (by decide), fun _ => hgo⟩⟩, fun h => absurd h (by decide)⟩⟩⟩, fun h => by omega⟩
        exfalso
        revert h
        rw [hbig']
        decide
      · rw [if_neg h3, ← encS_append] at hatt
        simp only [Tree.den, E.den, P1.den, P2.den, P3.den, List.map_cons, List.map_nil, List.cons_append, List.nil_append, List.getD_cons_zero, List.getD_cons_succ, List.getElem?_cons_zero, List.getElem?_cons_succ, asInt_int, asBool_bool, asStr_str, asList_list, cells_agg, TV.cell, pre_zero, pre_succ, post_zero, post_succ, decide_eq_true_eq, decide_eq_false_iff_not, beq_iff_eq, beq_eq_false_iff_ne, Bool.not_eq_true', Bool.not_eq_false', ne_eq, List.length_cons, List.length_nil, forall_eq, Bool.false_eq_true, Bool.true_eq_false, Int.reduceToNat, Option.some.injEq, exists_eq_left', ints_asList, map_snoc, map_app, list_map, ints_nil, ints_get, ints_len, bs_get, Int.toNat_natCast, List.length_append, List.length_map, bs_length, awake_all, hD, e64, hrd, mark_all, hmr, attach_all, hatt]
        simp only [lc, map_app, list_map, List.cons_append]
        have hgo := go (encS (b :: (ms.take 3 ++ [r]))) (by
          rw [List.take_of_length_le (l := ms) (by omega), List.take_of_length_le (l := ms ++ [r]) (by simp; omega)])
        have hsm' : decide (((ms.length + 1 + (0 + 1) : Nat) : Int) ≤ 4) = true := decide_eq_true (by omega)
        refine ⟨fun _ => ⟨by omega, by omega, mark_pre trivial, fun h => (by simp at h), fun _ => ⟨by omega, by omega, by omega, by omega, by omega, attach_pre ⟨by omega, hrr⟩, fun h => ?_, fun _ => ⟨fun h => absurd trivial h, fun _ => ⟨fun _ => hgo, fun h => absurd trivial h⟩⟩⟩⟩, fun h => by omega⟩
        exfalso
        revert h
        rw [hsm']
        decide
    · have hmf : markZ r = false := by simpa using hmr
      simp only [Tree.den, E.den, P1.den, P2.den, P3.den, List.map_cons, List.map_nil, List.cons_append, List.nil_append, List.getD_cons_zero, List.getD_cons_succ, List.getElem?_cons_zero, List.getElem?_cons_succ, asInt_int, asBool_bool, asStr_str, asList_list, cells_agg, TV.cell, pre_zero, pre_succ, post_zero, post_succ, decide_eq_true_eq, decide_eq_false_iff_not, beq_iff_eq, beq_eq_false_iff_ne, Bool.not_eq_true', Bool.not_eq_false', ne_eq, List.length_cons, List.length_nil, forall_eq, Bool.false_eq_true, Bool.true_eq_false, Int.reduceToNat, Option.some.injEq, exists_eq_left', ints_asList, map_snoc, map_app, list_map, ints_nil, ints_get, ints_len, bs_get, Int.toNat_natCast, List.length_append, List.length_map, bs_length, awake_all, hD, e64, hrd, mark_all, hmf]
      refine ⟨fun _ => ⟨by omega, by omega, mark_pre trivial, fun _ => ⟨⟨k + 1, ms, rfl, by omega, hms, by omega⟩, ?_⟩, fun h => (by simp at h)⟩, fun h => by omega⟩
      simp only [Am, List.getD_cons_zero, List.getD_cons_succ, asInt_int]; omega
  · have l2 : TV.list [.str (encS (b :: ms.take 3))] = strs [encS (b :: ms.take 3)] := rfl
    simp only [Tree.den, E.den, P1.den, P2.den, P3.den, List.map_cons, List.map_nil, List.cons_append, List.nil_append, List.getD_cons_zero, List.getD_cons_succ, List.getElem?_cons_zero, List.getElem?_cons_succ, asInt_int, asBool_bool, asStr_str, asList_list, cells_agg, TV.cell, pre_zero, pre_succ, post_zero, post_succ, decide_eq_true_eq, decide_eq_false_iff_not, beq_iff_eq, beq_eq_false_iff_ne, Bool.not_eq_true', Bool.not_eq_false', ne_eq, List.length_cons, List.length_nil, forall_eq, Bool.false_eq_true, Bool.true_eq_false, Int.reduceToNat, Option.some.injEq, exists_eq_left', ints_asList, map_snoc, map_app, list_map, ints_nil, ints_get, ints_len, bs_get, Int.toNat_natCast, List.length_append, List.length_map, bs_length, awake_all, hD, split_all, hsp, l2, sames_all]
    refine ⟨fun h => by omega, fun _ => ⟨split_pre ⟨hrb, by rw [List.length_cons]; omega⟩, sames_pre (by simp), fun _ => ⟨awake_pre, rfl⟩, fun h => (by simp at h)⟩⟩)) rfl
theorem glob_ofU {l : List (String × DataW Unit)} {W : World} (h : laidMet Tryd.prog l W)
    (h1 : ("unicode/utf8.first", Lib.firstData) ∈ l) (h2 : ("unicode/utf8.acceptRanges", Lib.acceptData) ∈ l) : GlobOk (mkEnv globT []) gtabU W := by
  have hT := tabs_of h h1 h2
  intro g ag cs hg
  simp only [gtabU, gtab, List.mem_cons, List.not_mem_nil, or_false, Prod.mk.injEq] at hg
  rcases hg with ⟨rfl, rfl, rfl⟩ | ⟨rfl, rfl, rfl⟩
  · exact rep_first hT
  · exact rep_accept hT
#print axioms lawMarks_c
end Go.Proofs.YtnbbepgmnbmfdaaDoor
