/- The contracts of the reference's value and Decode, of Same and of awake. -/
import Derived.Test.YtbeelajedknohaaDoorUr
namespace Go.Proofs.YtbeelajedknohaaDoor
set_option linter.unusedSimpArgs false
set_option linter.unusedVariables false
set_option linter.unusedSectionVars false

def Byte (l : List Int) : Prop := ∀ b ∈ l, 0 ≤ b ∧ b ≤ 255
theorem byte_of_bs (s : List UInt8) : Byte (bs s) := fun b hb => bs_mem hb
theorem Byte.get {l : List Int} (h : Byte l) (i : Nat) : 0 ≤ l.getD i 0 ∧ l.getD i 0 ≤ 255 := by
  rw [List.getD_eq_getElem?_getD]
  cases hx : l[i]? with
  | none => simp
  | some x => exact h x (List.mem_of_getElem? hx)
theorem valK_bd {l : List Int} (h : Byte l) (hl : l.length ≤ 4) : -600000 ≤ valK l ∧ valK l ≤ 9000000 := by
  match l, hl with
  | [], _ => exact ⟨by decide, by decide⟩
  | [a], _ => have := fst1_bd a; simp only [valK, List.foldl_nil]; omega
  | [a, b], _ => have := fst1_bd a; have := h b (by simp); simp only [valK, List.foldl_nil, List.foldl_cons]; omega
  | [a, b, c], _ => have := fst1_bd a; have := h b (by simp); have := h c (by simp); simp only [valK, List.foldl_nil, List.foldl_cons]; omega
  | [a, b, c, d], _ => have := fst1_bd a; have := h b (by simp); have := h c (by simp); have := h d (by simp); simp only [valK, List.foldl_nil, List.foldl_cons]; omega

def valueL : Law := ⟨fun ts => ∃ K, ts = [ints K] ∧ Byte K ∧ K.length = leadK K ∧ 2 ≤ K.length, fun ts r => ∀ K, ts = [ints K] → r = .int (valK K)⟩
theorem value_pre {K : List Int} (h : Byte K) (h1 : K.length = leadK K) (h2 : 2 ≤ K.length) : valueL.pre [ints K] := ⟨K, rfl, h, h1, h2⟩
theorem value_all {K : List Int} {Q : TV → Prop} : (∀ r, valueL.post [ints K] r → Q r) ↔ Q (.int (valK K)) :=
  ⟨fun h => h _ fun p' e => by simp only [List.cons.injEq, and_true] at e; rw [ints_inj e], fun h r hr => by rw [hr K rfl]; exact h⟩

def VI (K : List Int) (xs : List TV) : Prop := ∃ i : Nat, xs = [.int (valK (K.take i)), .int i] ∧ 1 ≤ i ∧ i ≤ K.length
def Vm (K : List Int) (xs : List TV) : Nat := K.length - (xs.getD 1 (.int 0)).asInt.toNat
theorem value_c (k : Nat) : Contract Tryd.prog (mkEnv globT []) gtab (sn_ref01_value k) valueL.pre valueL.post := contract_ref01_value (fun _ => rfl) (fun s hs => by cases hs) k (by
  rintro ts hl ⟨K, rfl, hb, hlead, h2⟩
  have fin : ∀ r : TV, r = .int (valK K) → valueL.post [ints K] r := fun r hr p' e => by
    simp only [List.cons.injEq, and_true] at e
    rw [← ints_inj e]
    exact hr
  generalize valueL.post [ints K] = R at fin ⊢
  have h4 : K.length ≤ 4 := by
    cases K with
    | nil => simp
    | cons a r => rw [hlead]; exact lead_le a
  have hloop : ∀ n0 : Int, n0 = valK (K.take 1) → ∃ (I : List TV → Prop) (m : List TV → Nat), I [.int n0, .int 1] ∧ ∀ xs : List TV, xs.length = 0 + 1 + 1 → I xs →
      ((xs.getD 1 (.int 0)).asInt < K.length → 0 ≤ (xs.getD 1 (.int 0)).asInt ∧ (xs.getD 1 (.int 0)).asInt < K.length ∧
        I [TV.int (IntKind.wrap .i32 (IntKind.wrap .i32 (IntKind.wrap .i32 ((xs.getD 0 (.int 0)).asInt * 64) + IntKind.wrap .i32 (K.getD (xs.getD 1 (.int 0)).asInt.toNat 0)) - 128)), TV.int (IntKind.wrap .i64 ((xs.getD 1 (.int 0)).asInt + 1))] ∧
        m [TV.int (IntKind.wrap .i32 (IntKind.wrap .i32 (IntKind.wrap .i32 ((xs.getD 0 (.int 0)).asInt * 64) + IntKind.wrap .i32 (K.getD (xs.getD 1 (.int 0)).asInt.toNat 0)) - 128)), TV.int (IntKind.wrap .i64 ((xs.getD 1 (.int 0)).asInt + 1))] < m xs) ∧
      (¬ (xs.getD 1 (.int 0)).asInt < K.length → R (xs.getD 0 (.int 0))) := by
    rintro n0 rfl
    refine ⟨VI K, Vm K, ⟨1, rfl, by omega, by omega⟩, ?_⟩
    rintro xs _ ⟨i, rfl, h1, hi⟩
    simp only [List.getD_cons_zero, List.getD_cons_succ, asInt_int, Int.toNat_natCast]
    refine ⟨fun hlt => ?_, fun hlt => ?_⟩
    · have hg := hb.get i
      have hv := valK_bd (l := K.take i) (fun b hm => hb b (List.mem_of_mem_take hm)) (by simp; omega)
      have ht : K.take i ≠ [] := fun e => by have := congrArg List.length e; rw [List.length_take, List.length_nil] at this; omega
      have hs : valK (K.take (i + 1)) = valK (K.take i) * 64 + (K.getD i 0 - 128) := by rw [take_snoc (l := K) (k := i) (by omega), valK_snoc _ _ ht]
      have e1 : IntKind.wrap .i32 (valK (K.take i) * 64) = valK (K.take i) * 64 := wrap_i32 (by omega) (by omega)
      have e2 : IntKind.wrap .i32 (K.getD i 0) = K.getD i 0 := wrap_i32 (by omega) (by omega)
      have e3 : IntKind.wrap .i32 (valK (K.take i) * 64 + K.getD i 0) = valK (K.take i) * 64 + K.getD i 0 := wrap_i32 (by omega) (by omega)
      have e4 : IntKind.wrap .i32 (valK (K.take i) * 64 + K.getD i 0 - 128) = valK (K.take (i + 1)) := by rw [wrap_i32 (n := valK (K.take i) * 64 + K.getD i 0 - 128) (by omega) (by omega)]; omega
      have e5 : IntKind.wrap .i64 ((i : Int) + 1) = ((i + 1 : Nat) : Int) := by rw [wrap_i64 (n := (i : Int) + 1) (by omega) (by omega)]; omega
      rw [e1, e2, e3, e4, e5]
      refine ⟨by omega, hlt, ⟨i + 1, rfl, by omega, by omega⟩, ?_⟩
      simp only [Vm, List.getD_cons_zero, List.getD_cons_succ, asInt_int]; omega
    · exact fin _ (by rw [List.take_of_length_le (by omega)])
  have h0 := hb.get 0
  have hk1 : valK (K.take 1) = fst1 (K.getD 0 0) := by
    cases K with
    | nil => simp at h2
    | cons a r => rfl
  have hw : IntKind.wrap .i32 (K.getD 0 0) = K.getD 0 0 := wrap_i32 (by omega) (by omega)
  have hlk : leadK K = lead (K.getD 0 0) := by
    cases K with
    | nil => simp at h2
    | cons a r => rfl
  have hlc := lead_cases (K.getD 0 0)
  unfold tr_ref01_value
  simp only [Tree.den, E.den, P1.den, P2.den, P3.den, List.map_cons, List.map_nil, List.cons_append, List.nil_append, List.getD_cons_zero, List.getD_cons_succ, List.getElem?_cons_zero, List.getElem?_cons_succ, asInt_int, asBool_bool, asStr_str, asList_list, cells_agg, TV.cell, pre_zero, pre_succ, post_zero, post_succ, decide_eq_true_eq, decide_eq_false_iff_not, beq_iff_eq, beq_eq_false_iff_ne, Bool.not_eq_true', Bool.not_eq_false', ne_eq, List.length_cons, List.length_nil, forall_eq, Bool.false_eq_true, Bool.true_eq_false, Int.reduceToNat, Option.some.injEq, exists_eq_left']
  simp only [Tree.den, E.den, P1.den, P2.den, P3.den, List.map_cons, List.map_nil, List.cons_append, List.nil_append, List.getD_cons_zero, List.getD_cons_succ, List.getElem?_cons_zero, List.getElem?_cons_succ, asInt_int, asBool_bool, asStr_str, asList_list, cells_agg, TV.cell, pre_zero, pre_succ, post_zero, post_succ, decide_eq_true_eq, decide_eq_false_iff_not, beq_iff_eq, beq_eq_false_iff_ne, Bool.not_eq_true', Bool.not_eq_false', ne_eq, List.length_cons, List.length_nil, forall_eq, Bool.false_eq_true, Bool.true_eq_false, Int.reduceToNat, Option.some.injEq, exists_eq_left', ints_asList, map_snoc, map_app, list_map, ints_nil, ints_get, ints_len, bs_get, Int.toNat_natCast, List.length_append, List.length_map, bs_length]
  rw [hw]
  have hv2 : ∀ c : Int, 192 ≤ c → c ≤ 240 → IntKind.wrap .i32 (K.getD 0 0 - c) = K.getD 0 0 - c := fun c h h' => wrap_i32 (by omega) (by omega)
  refine ⟨fun h => ⟨by omega, hloop _ ?_⟩, fun h => ⟨fun h' => ⟨by omega, hloop _ ?_⟩, fun h' => ⟨fun h'' => ⟨by omega, hloop _ ?_⟩, fun h'' => by omega⟩⟩⟩
  all_goals
    rw [hv2 _ (by omega) (by omega), hk1]
    unfold fst1
    (repeat' split) <;> omega)

/-! ### The reference's Decode -/
def RI (t : List Int) (xs : List TV) : Prop := ∃ (k : Nat) (out K : List Int), xs = [.int k, ints out, ints K] ∧ k ≤ t.length ∧ Good K ∧ Byte K ∧ decF (out, K) (t.drop k) = dec t ∧ out.length + (if K = [] then 0 else 1) ≤ k
def Rm (t : List Int) (xs : List TV) : Nat := 2 * (t.length - (xs.getD 0 (.int 0)).asInt.toNat) + (if (xs.getD 2 (.int 0)).asList.length = 0 then 0 else 1)
theorem drop_getD {l : List Int} {k : Nat} (h : k < l.length) : l.drop k = l.getD k 0 :: l.drop (k + 1) := by
  rw [List.drop_eq_getElem_cons h, List.getD_eq_getElem?_getD, List.getElem?_eq_getElem h]
  rfl
theorem byteOf_ints (l : List Int) : (l.map TV.int).map byteOf = unbs l := by simp [unbs, byteOf, TV.asInt, Function.comp_def]
theorem RI.next {t out K out' K' : List Int} {k : Nat} {b : Int} (hk : k < t.length) (hbb : t.getD k 0 = b) (hd : decF (out, K) (t.drop k) = dec t) (hs : stepD (out, K) b = (out', K')) (hg : Good K) (hb : Byte K')
    (hlen : out'.length + (if K' = [] then 0 else 1) ≤ k + 1) : RI t [.int (k + 1), ints out', ints K'] ∧ Rm t [.int (k + 1), ints out', ints K'] < 2 * (t.length - k) + (if K.length = 0 then 0 else 1) := by
  refine ⟨⟨k + 1, out', K', rfl, by omega, ?_, hb, ?_, hlen⟩, ?_⟩
  · have := good_step (out, K) b hg; rw [hs] at this; exact this
  · rw [← hd, drop_getD hk, hbb]
    show _ = decF (stepD (out, K) b) _
    rw [hs]
  · simp only [Rm, List.getD_cons_zero, List.getD_cons_succ, asInt_int, ints_len]
    have : (if K'.length = 0 then 0 else 1) ≤ 1 := by split <;> omega
    omega
theorem RI.reset {t out K : List Int} {k : Nat} {b : Int} (hk : k < t.length) (hbb : t.getD k 0 = b) (hd : decF (out, K) (t.drop k) = dec t) (hK : K ≠ []) (hr : ¬ (loK K ≤ b ∧ b ≤ hiK K)) (hlen : out.length + (if K = [] then 0 else 1) ≤ k) :
    RI t [.int k, ints (out ++ [65533]), ints []] ∧ Rm t [.int k, ints (out ++ [65533]), ints []] < 2 * (t.length - k) + (if K.length = 0 then 0 else 1) := by
  refine ⟨⟨k, out ++ [65533], [], rfl, by omega, trivial, (fun b h => by cases h), ?_, ?_⟩, ?_⟩
  · rw [← hd, drop_getD hk, hbb]
    show decF (stepD (out ++ [65533], []) b) _ = decF (stepD (out, K) b) _
    rw [step_out_of_range out K b hK hr]
  · rw [if_neg hK] at hlen; simp; omega
  · have : K.length ≠ 0 := by simpa using hK
    simp only [Rm, List.getD_cons_zero, List.getD_cons_succ, asInt_int, ints_len, List.length_nil, Int.toNat_natCast, if_neg this, if_true]
    omega
theorem refDecode_c (k : Nat) : Contract Tryd.prog (mkEnv globT []) gtab (sn_ref01_Decode k) decodeL.pre decodeL.post := Contract.env (Γ := mkEnv globT [limitsL, valueL]) (contract_ref01_Decode (fun _ => rfl) (fun s hs => by
    simp only [cx_ref01_Decode, List.mem_cons, List.not_mem_nil, or_false] at hs
    rcases hs with rfl | rfl
    · exact Contract.inEnv rfl (limits_c 0) rfl
    · exact Contract.inEnv rfl (value_c 1) rfl) k (by
  rintro ts hl ⟨p, c, rfl, hsz⟩
  have fin : ∀ r : TV, r = decT (p ++ c) → decodeL.post [.str p, .str c] r := fun r hr p' c' e => by
    simp only [List.cons.injEq, TV.str.injEq, and_true] at e
    obtain ⟨rfl, rfl⟩ := e
    exact hr
  generalize decodeL.post [.str p, .str c] = R at fin ⊢
  have hlt : (p ++ c).length ≤ 1099511627776 := by simpa using hsz
  unfold tr_ref01_Decode
  simp only [Tree.den, E.den, P1.den, P2.den, P3.den, List.map_cons, List.map_nil, List.cons_append, List.nil_append, List.getD_cons_zero, List.getD_cons_succ, List.getElem?_cons_zero, List.getElem?_cons_succ, asInt_int, asBool_bool, asStr_str, asList_list, cells_agg, TV.cell, pre_zero, pre_succ, post_zero, post_succ, decide_eq_true_eq, decide_eq_false_iff_not, beq_iff_eq, beq_eq_false_iff_ne, Bool.not_eq_true', Bool.not_eq_false', ne_eq, List.length_cons, List.length_nil, forall_eq, Bool.false_eq_true, Bool.true_eq_false, Int.reduceToNat, Option.some.injEq, exists_eq_left']
  generalize p ++ c = s at *
  refine ⟨by omega, RI (bs s), Rm (bs s), ?_, fun xs hxl hI => ?_⟩
  · exact ⟨0, [], [], rfl, by omega, trivial, (fun b h => by cases h), rfl, by simp⟩
  · obtain ⟨k, out, K, rfl, hk, hg, hbk, hd, hlen⟩ := hI
    have hD : Rm (bs s) [.int k, ints out, ints K] = 2 * ((bs s).length - k) + (if K.length = 0 then 0 else 1) := by simp only [Rm, List.getD_cons_zero, List.getD_cons_succ, asInt_int, ints_len, Int.toNat_natCast]
    have hb := bs_getD s k
    have hbl := bs_length s
    simp only [Tree.den, E.den, P1.den, P2.den, P3.den, List.map_cons, List.map_nil, List.cons_append, List.nil_append, List.getD_cons_zero, List.getD_cons_succ, List.getElem?_cons_zero, List.getElem?_cons_succ, asInt_int, asBool_bool, asStr_str, asList_list, cells_agg, TV.cell, pre_zero, pre_succ, post_zero, post_succ, decide_eq_true_eq, decide_eq_false_iff_not, beq_iff_eq, beq_eq_false_iff_ne, Bool.not_eq_true', Bool.not_eq_false', ne_eq, List.length_cons, List.length_nil, forall_eq, Bool.false_eq_true, Bool.true_eq_false, Int.reduceToNat, Option.some.injEq, exists_eq_left', ints_asList, map_snoc, map_app, list_map, ints_nil, ints_get, ints_len, bs_get, Int.toNat_natCast, List.length_append, List.length_map, bs_length, hD]
    have e64 : IntKind.wrap .i64 ((k : Int) + 1) = k + 1 := wrap_i64 (by omega) (by omega)
    rw [e64]
    generalize hbb : (bs s).getD k 0 = b at *
    have e32 : IntKind.wrap .i32 b = b := wrap_i32 (by omega) (by omega)
    have hone : [TV.int b] = [TV.int b] := rfl
    have l1 : TV.list [.int b] = ints [b] := rfl
    simp only [l1, limits_all, value_all, limT, Tree.den, E.den, P1.den, P2.den, P3.den, List.map_cons, List.map_nil, List.cons_append, List.nil_append, List.getD_cons_zero, List.getD_cons_succ, List.getElem?_cons_zero, List.getElem?_cons_succ, asInt_int, asBool_bool, asStr_str, asList_list, cells_agg, TV.cell, pre_zero, pre_succ, post_zero, post_succ, decide_eq_true_eq, decide_eq_false_iff_not, beq_iff_eq, beq_eq_false_iff_ne, Bool.not_eq_true', Bool.not_eq_false', ne_eq, List.length_cons, List.length_nil, forall_eq, Bool.false_eq_true, Bool.true_eq_false, Int.reduceToNat, Option.some.injEq, exists_eq_left', ints_asList, map_snoc, map_app, list_map, ints_nil, ints_get, ints_len, bs_get, Int.toNat_natCast, List.length_append, List.length_map, bs_length, e32]
    rw [← hbl]
    have lim1 : limitsL.pre [ints [b]] := limits_pre (by simp)
    have hKlen := good_length K hg
    have byteb : Byte [b] := fun x hx => by simp only [List.mem_singleton] at hx; subst hx; exact hb
    have byteK : Byte (K ++ [b]) := fun x hx => by
      rcases List.mem_append.1 hx with h | h
      · exact hbk x h
      · exact byteb x h
    have hout : out.length ≤ k := by split at hlen <;> omega
    refine ⟨fun hk' => ⟨by omega, by omega, fun h0 => ⟨lim1, fun h1 => ⟨by omega, ?_⟩, fun h1 => ⟨fun h2 => ⟨by omega, ?_⟩, fun h2 => ⟨by omega, ?_⟩⟩⟩, fun h0 => ?_⟩, fun hk' => ?_⟩
    · have hK : K = [] := List.eq_nil_of_length_eq_zero (by omega)
      subst hK
      refine RI.next (by omega) hbb hd ?_ hg hbk (by simp; omega)
      unfold stepD; rw [if_pos rfl, fresh_lt out h1]
    · have hK : K = [] := List.eq_nil_of_length_eq_zero (by omega)
      subst hK
      refine RI.next (by omega) hbb hd ?_ hg byteb (by simp; omega)
      have h2' : 0 < lead b := by simpa [leadK] using h2
      unfold stepD freshD; rw [if_pos rfl, if_neg h1, if_pos h2']; rfl
    · have hK : K = [] := List.eq_nil_of_length_eq_zero (by omega)
      subst hK
      refine RI.next (by omega) hbb hd ?_ hg hbk (by simp; omega)
      have h2' : ¬ 0 < lead b := by simpa [leadK] using h2
      unfold stepD freshD; rw [if_pos rfl, if_neg h1, if_neg h2']
    · have hK : K ≠ [] := fun e => h0 (by rw [e]; rfl)
      have hl1 : out.length + 1 ≤ k := by rw [if_neg hK] at hlen; exact hlen
      have hK0 : K.length ≠ 0 := by simpa using hK
      refine ⟨limits_pre hK, fun h1 => ⟨by omega, ?_⟩, fun h1 => ⟨fun h2 => ⟨by omega, ?_⟩, fun h2 => ⟨by omega, fun h3 => ⟨?_, by omega, ?_⟩, fun h3 => ?_⟩⟩⟩
      · exact RI.reset (by omega) hbb hd hK (by omega) hlen
      · exact RI.reset (by omega) hbb hd hK (by omega) hlen
      · exact value_pre byteK (by rw [leadK_snoc _ _ hK, List.length_append, List.length_singleton]; omega) (by rw [List.length_append, List.length_singleton]; omega)
      · refine RI.next (by omega) hbb hd ?_ hg (fun x hx => by cases hx) (by simp; omega)
        unfold stepD
        dsimp only
        rw [if_neg hK, if_pos (by omega), if_pos (by omega)]
      · refine RI.next (by omega) hbb hd ?_ hg byteK (by simp; omega)
        unfold stepD
        dsimp only
        rw [if_neg hK, if_pos (by omega), if_neg (by omega)]
    · rw [List.drop_of_length_le (by omega)] at hd
      refine fin _ ?_
      unfold decT
      rw [← hd, byteOf_ints]
      rfl)) rfl

/-! ### Bytes kept -/
theorem bs_unbs {l : List Int} (h : Byte l) : bs (unbs l) = l := by
  unfold bs unbs
  rw [List.map_map]
  conv => rhs; rw [← List.map_id l]
  refine List.map_congr_left fun b hb => ?_
  have := h b hb
  simp only [Function.comp, id, UInt8.toNat_ofNat']
  omega
theorem byte_dec {l : List Int} (h : Byte l) : Byte (dec l).2 := by
  obtain ⟨p, hp⟩ := dec_suffix l
  intro b hb
  exact h b (by rw [hp]; exact List.mem_append.2 (.inr hb))
theorem bs_rest (s : List UInt8) : bs (unbs (dec (bs s)).2) = (dec (bs s)).2 := bs_unbs (byte_dec (byte_of_bs s))
theorem unbs_len (l : List Int) : (unbs l).length = l.length := by simp [unbs]

end Go.Proofs.YtbeelajedknohaaDoor
