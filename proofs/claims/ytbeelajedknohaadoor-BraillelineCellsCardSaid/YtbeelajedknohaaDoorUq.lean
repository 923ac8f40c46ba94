/- The contract of utf8stream.Decode. -/
import Derived.Test.YtbeelajedknohaaDoorUp
namespace Go.Proofs.YtbeelajedknohaaDoor
set_option linter.unusedSimpArgs false
set_option linter.unusedVariables false
set_option linter.unusedSectionVars false

theorem decode_c (k : Nat) : Contract Tryd.prog (mkEnv globT []) gtab (sn_utf8stream_Decode k) decodeL.pre decodeL.post := Contract.env (Γ := mkEnv globT [beginL]) (contract_utf8stream_Decode (fun _ => rfl) (fun s hs => by
    simp only [cx_utf8stream_Decode, List.mem_singleton] at hs
    subst hs
    exact Contract.inEnv rfl (begin_c 0) rfl) k (by
  rintro ts hl ⟨p, c, rfl, hsz⟩
  have fin : ∀ r : TV, r = decT (p ++ c) → decodeL.post [.str p, .str c] r := fun r hr p' c' e => by
    simp only [List.cons.injEq, TV.str.injEq, and_true] at e
    obtain ⟨rfl, rfl⟩ := e
    exact hr
  generalize decodeL.post [.str p, .str c] = R at fin ⊢
  have hlt : (p ++ c).length ≤ 1099511627776 := by simpa using hsz
  unfold tr_utf8stream_Decode
  simp only [Tree.den, E.den, P1.den, P2.den, P3.den, List.map_cons, List.map_nil, List.cons_append, List.nil_append, List.getD_cons_zero, List.getD_cons_succ, List.getElem?_cons_zero, List.getElem?_cons_succ, asInt_int, asBool_bool, asStr_str, asList_list, cells_agg, TV.cell, pre_zero, pre_succ, post_zero, post_succ, decide_eq_true_eq, decide_eq_false_iff_not, beq_iff_eq, beq_eq_false_iff_ne, Bool.not_eq_true', Bool.not_eq_false', ne_eq, List.length_cons, List.length_nil, forall_eq, Bool.false_eq_true, Bool.true_eq_false, Int.reduceToNat, Option.some.injEq, exists_eq_left']
  generalize p ++ c = s at *
  refine ⟨by omega, DI (bs s), Dm (bs s), ?_, fun xs hxl hI => ?_⟩
  · exact ⟨0, 0, 0, 0, 0, 0, [], [], rfl, by omega, SOk.start, rfl⟩
  · obtain ⟨s0, k, vv, mm, ll, hh, out, K, rfl, hk, ho, hd⟩ := hI
    have hD : Dm (bs s) [.int s0, .int k, .int vv, .int mm, .int ll, .int hh, ints out] = (bs s).length - k := rfl
    have hlen := dec_len ((bs s).take k)
    rw [hd] at hlen
    have htl := List.length_take_le k (bs s)
    have hb := bs_getD s k
    have hbl := bs_length s
    simp only [Tree.den, E.den, P1.den, P2.den, P3.den, List.map_cons, List.map_nil, List.cons_append, List.nil_append, List.getD_cons_zero, List.getD_cons_succ, List.getElem?_cons_zero, List.getElem?_cons_succ, asInt_int, asBool_bool, asStr_str, asList_list, cells_agg, TV.cell, pre_zero, pre_succ, post_zero, post_succ, decide_eq_true_eq, decide_eq_false_iff_not, beq_iff_eq, beq_eq_false_iff_ne, Bool.not_eq_true', Bool.not_eq_false', ne_eq, List.length_cons, List.length_nil, forall_eq, Bool.false_eq_true, Bool.true_eq_false, Int.reduceToNat, Option.some.injEq, exists_eq_left', ints_asList, map_snoc, map_app, list_map, ints_nil, ints_get, ints_len, bs_get, Int.toNat_natCast, List.length_append, List.length_map, bs_length, hD]
    have e64 : IntKind.wrap .i64 ((k : Int) + 1) = k + 1 := wrap_i64 (by omega) (by omega)
    have em : IntKind.wrap .i64 (mm - 1) = mm - 1 := by have := ho.m0; have := ho.m1; exact wrap_i64 (by omega) (by omega)
    rw [e64, em]
    generalize hbb : (bs s).getD k 0 = b at *
    have e32 : IntKind.wrap .i32 b = b := wrap_i32 (by omega) (by omega)
    simp only [begin_all, seqT, Tree.den, E.den, P1.den, P2.den, P3.den, List.map_cons, List.map_nil, List.cons_append, List.nil_append, List.getD_cons_zero, List.getD_cons_succ, List.getElem?_cons_zero, List.getElem?_cons_succ, asInt_int, asBool_bool, asStr_str, asList_list, cells_agg, TV.cell, pre_zero, pre_succ, post_zero, post_succ, decide_eq_true_eq, decide_eq_false_iff_not, beq_iff_eq, beq_eq_false_iff_ne, Bool.not_eq_true', Bool.not_eq_false', ne_eq, List.length_cons, List.length_nil, forall_eq, Bool.false_eq_true, Bool.true_eq_false, Int.reduceToNat, Option.some.injEq, exists_eq_left', ints_asList, map_snoc, map_app, list_map, ints_nil, ints_get, ints_len, bs_get, Int.toNat_natCast, List.length_append, List.length_map, bs_length, e32]
    have hpre := begin_pre hb
    have hm0 := ho.m0
    have hv : 0 < mm → ll ≤ b → b ≤ hh → bitsOp .i32 (fun x y => x ||| y) (shlOp .i32 vv 6) (IntKind.wrap .i32 (bitsOp .u8 (fun x y => x &&& y) b 63)) = vv * 64 + (b - 128) := fun hm h1 h2 => by
      have hK : K ≠ [] := fun e => by have := ho.empty e; omega
      have := ho.full hK
      have := loK_bd K
      have := hiK_bd K
      have := ho.v1
      exact next_value ho.v0 (by omega) (by omega) (by omega)
    have hout : 0 < mm → ¬ (ll ≤ b ∧ b ≤ hh) → stepD (out, K) b = freshD (out ++ [65533]) b := fun hm h => by
      have hK : K ≠ [] := fun e => by have := ho.empty e; omega
      have hf := ho.full hK
      rw [step_out_of_range out K b hK (by rw [← hf.2.2.1, ← hf.2.2.2.1]; exact h)]
      unfold stepD
      rw [if_pos rfl]
    have hnew : ¬ 0 < mm → stepD (out, K) b = freshD out b := fun hm => by
      have hK : K = [] := by
        cases K with
        | nil => rfl
        | cons a r => have := ho.full (by simp); omega
      subst hK
      unfold stepD
      rw [if_pos rfl]
    have hone : 0 < mm → 0 < K.length := fun hm => by
      cases K with
      | nil => have := ho.empty rfl; omega
      | cons a r => simp
    dsimp only at hlen
    refine ⟨fun hk' => ⟨by omega, by omega, fun hm => ⟨fun h1 => ⟨fun h2 => ⟨fun hd1 => ⟨by omega, ?_⟩, fun hd1 => ?_⟩, fun h2 => ⟨fun _ => ⟨by omega, hpre, ?_⟩, fun h => absurd hm h⟩⟩, fun h1 => ⟨fun _ => ⟨by omega, hpre, ?_⟩, fun h => absurd hm h⟩⟩, fun hm => ⟨fun h => absurd h hm, fun _ => ⟨hpre, ?_⟩⟩⟩, fun hk' => ⟨fun hm => ?_, fun hm => ?_⟩⟩
    all_goals try rw [hv hm h1 h2]
    · obtain ⟨q1, q2⟩ := ho.done hm h1 h2 (by omega) rfl
      rw [← hbl]
      exact DI.next (by omega) hd (by rw [hbb]; exact q1 out) q2 (by rw [hd1])
    · obtain ⟨q1, q2⟩ := ho.more hm h1 h2 (by omega) rfl
      rw [← hbl]
      exact DI.next (by omega) hd (by rw [hbb]; exact q1 out) q2 rfl
    · have H := DI.fresh (by omega) hd hbb (hout hm (by omega))
      have := hone hm
      rw [hbl] at H
      exact ⟨fun h => ⟨by omega, H.1 h⟩, fun h => ⟨fun h' => ⟨by omega, (H.2 h).1 h'⟩, (H.2 h).2⟩⟩
    · have H := DI.fresh (by omega) hd hbb (hout hm (by omega))
      have := hone hm
      rw [hbl] at H
      exact ⟨fun h => ⟨by omega, H.1 h⟩, fun h => ⟨fun h' => ⟨by omega, (H.2 h).1 h'⟩, (H.2 h).2⟩⟩
    · have H := DI.fresh (by omega) hd hbb (hnew hm)
      rw [hbl] at H
      exact ⟨fun h => ⟨by omega, H.1 h⟩, fun h => ⟨fun h' => ⟨by omega, (H.2 h).1 h'⟩, (H.2 h).2⟩⟩
    · have hK : K = [] := by
        cases K with
        | nil => rfl
        | cons a r => have := ho.full (by simp); omega
      subst hK
      rw [List.take_of_length_le (by omega)] at hd
      refine fin _ ?_
      unfold decT
      rw [hd]
      rfl
    · have hK : K ≠ [] := fun e => hm (ho.empty e)
      have hf := ho.full hK
      rw [List.take_of_length_le (by omega)] at hd
      refine ⟨by omega, by omega, fin _ ?_⟩
      unfold decT
      obtain ⟨pre, hp⟩ := dec_suffix (bs s)
      rw [hd] at hp ⊢
      dsimp only at hp ⊢
      have hpl : pre.length = s0 := by have := congrArg List.length hp; simp only [List.length_append] at this; omega
      have e : K = bs (s.drop s0) := by
        rw [bs_drop, hp, ← hpl, List.drop_left]
      rw [e, unbs_bs, List.take_of_length_le (by simp)])) rfl
end Go.Proofs.YtbeelajedknohaaDoor
