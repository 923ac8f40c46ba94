/- The contracts of package utf8stream, from the symbolic runs and the plain machine. -/
import Derived.Test.YtbeelajedknohaaDoorU1
import Derived.Test.YtbeelajedknohaaDoorFc
import Derived.Test.YtbeelajedknohaaDoorDecS
namespace Go.Proofs.YtbeelajedknohaaDoor
set_option linter.unusedSimpArgs false
set_option linter.unusedVariables false
set_option linter.unusedSectionVars false

theorem and31 {b : Int} (h : 194 ≤ b) (k : b ≤ 223) : IntKind.wrap .i32 (bitsOp .u8 (fun x y => x &&& y) b 31) = b - 192 := by
  have := and_mask8 31 (by decide) (b := b) (by omega) (by omega)
  rw [show ((31 : Nat) : Int) = 31 from rfl] at this
  rw [this, wrap_i32 (by omega) (by omega)]; omega
theorem and15 {b : Int} (h : 224 ≤ b) (k : b ≤ 239) : IntKind.wrap .i32 (bitsOp .u8 (fun x y => x &&& y) b 15) = b - 224 := by
  have := and_mask8 15 (by decide) (b := b) (by omega) (by omega)
  rw [show ((15 : Nat) : Int) = 15 from rfl] at this
  rw [this, wrap_i32 (by omega) (by omega)]; omega
theorem and7 {b : Int} (h : 240 ≤ b) (k : b ≤ 244) : IntKind.wrap .i32 (bitsOp .u8 (fun x y => x &&& y) b 7) = b - 240 := by
  have := and_mask8 7 (by decide) (b := b) (by omega) (by omega)
  rw [show ((7 : Nat) : Int) = 7 from rfl] at this
  rw [this, wrap_i32 (by omega) (by omega)]; omega

def seqT (v m l h : Int) : TV := .agg [.int v, .int m, .int l, .int h]
def beginL : Law := ⟨fun ts => ∃ b, ts = [.int b] ∧ 0 ≤ b ∧ b ≤ 255, fun ts r => ∀ b, ts = [.int b] → r = seqT (fst1 b) (misB b) (lo1 b) (hi1 b)⟩

theorem begin_c (k : Nat) : Contract Tryd.prog (mkEnv globT []) gtab (sn_utf8stream_begin k) beginL.pre beginL.post := contract_utf8stream_begin (fun _ => rfl) (fun s hs => by cases hs) k (by
  rintro ts hl ⟨b, rfl, h0, h1⟩
  unfold tr_utf8stream_begin
  simp only [Tree.den, E.den, P1.den, P2.den, P3.den, List.map_cons, List.map_nil, List.cons_append, List.nil_append, List.getD_cons_zero, List.getD_cons_succ, List.getElem?_cons_zero, List.getElem?_cons_succ, asInt_int, asBool_bool, asStr_str, asList_list, cells_agg, TV.cell, pre_zero, pre_succ, post_zero, post_succ, decide_eq_true_eq, decide_eq_false_iff_not, beq_iff_eq, beq_eq_false_iff_ne, Bool.not_eq_true', Bool.not_eq_false', ne_eq, List.length_cons, List.length_nil, forall_eq, Bool.false_eq_true, Bool.true_eq_false, Int.reduceToNat, Option.some.injEq, exists_eq_left']
  have fin : ∀ r : TV, r = seqT (fst1 b) (misB b) (lo1 b) (hi1 b) → beginL.post [.int b] r := fun r hr b' e => by
    simp only [List.cons.injEq, TV.int.injEq, and_true] at e
    subst e
    exact hr
  generalize beginL.post [TV.int b] = R at fin ⊢
  repeat' (first | apply And.intro | intro _)
  all_goals
    refine fin _ ?_
    clear fin
    first
    | (exfalso; omega)
    | (unfold seqT fst1 misB lo1 hi1
       congr 1
       (repeat' split) <;> first | (exfalso; omega) | rfl | (rw [and31 (by omega) (by omega)]) | (rw [and15 (by omega) (by omega)]) | (rw [and7 (by omega) (by omega)])))

theorem begin_pre {b : Int} (h : 0 ≤ b ∧ b ≤ 255) : beginL.pre [.int b] := ⟨b, rfl, h.1, h.2⟩
theorem begin_all {b : Int} {Q : TV → Prop} : (∀ r, beginL.post [.int b] r → Q r) ↔ Q (seqT (fst1 b) (misB b) (lo1 b) (hi1 b)) :=
  ⟨fun h => h _ fun b' e => by simp only [List.cons.injEq, TV.int.injEq, and_true] at e; rw [e], fun h r hr => by rw [hr b rfl]; exact h⟩

/-! ### Decode -/
def unbs (l : List Int) : List UInt8 := l.map fun n => UInt8.ofNat n.toNat
theorem unbs_bs (s : List UInt8) : unbs (bs s) = s := by
  have := byteOf_bs s
  simp only [List.map_map] at this
  exact this
def decT (s : List UInt8) : TV := .agg [ints (dec (bs s)).1, .str (unbs (dec (bs s)).2)]
def decodeL : Law := ⟨fun ts => ∃ p c, ts = [.str p, .str c] ∧ p.length + c.length ≤ 1099511627776, fun ts r => ∀ p c, ts = [.str p, .str c] → r = decT (p ++ c)⟩

def DI (t : List Int) (xs : List TV) : Prop := ∃ (s0 k : Nat) (vv mm ll hh : Int) (out K : List Int), xs = [.int s0, .int k, .int vv, .int mm, .int ll, .int hh, ints out] ∧ k ≤ t.length ∧ SOk K k s0 vv mm ll hh ∧ dec (t.take k) = (out, K)
def Dm (t : List Int) (xs : List TV) : Nat := t.length - (xs.getD 1 (.int 0)).asInt.toNat
theorem DI.next {t : List Int} {k s0 : Nat} {vv mm ll hh : Int} {out K out' K' : List Int} {xs : List TV} (hk : k < t.length) (hd : dec (t.take k) = (out, K)) (hs : stepD (out, K) (t.getD k 0) = (out', K')) (ho : SOk K' (k + 1) s0 vv mm ll hh)
    (he : xs = [.int s0, .int (k + 1), .int vv, .int mm, .int ll, .int hh, ints out']) : DI t xs ∧ Dm t xs < t.length - k := by
  refine ⟨⟨s0, k + 1, vv, mm, ll, hh, out', K', by rw [he]; rfl, by omega, ho, ?_⟩, ?_⟩
  · rw [take_snoc hk, dec_snoc _ _ _ _ hd, hs]
  · rw [he]
    simp only [Dm, List.getD_cons_succ, List.getD_cons_zero, asInt_int]
    omega
theorem fresh_lt {b : Int} (o : List Int) (h : b < 128) : freshD o b = (o ++ [b], []) := by unfold freshD; rw [if_pos h]
theorem fresh_none {b : Int} (o : List Int) (h : ¬ b < 128) (k : misB b = 0) : freshD o b = (o ++ [65533], []) := by
  unfold freshD; rw [if_neg h, if_neg (by have := misB_pos b; omega)]
theorem fresh_some {b : Int} (o : List Int) (h : ¬ b < 128) (k : ¬ misB b = 0) : freshD o b = (o, [b]) := by
  unfold freshD; rw [if_neg h, if_pos (by have := misB_pos b; omega)]
def Sx (k : Nat) (b : Int) (o : List Int) : List TV := [.int k, .int (k + 1), .int (fst1 b), .int (misB b), .int (lo1 b), .int (hi1 b), ints o]
theorem DI.fresh {t : List Int} {k : Nat} {out K o : List Int} {b : Int} (hk : k < t.length) (hd : dec (t.take k) = (out, K)) (hb : t.getD k 0 = b) (hs : stepD (out, K) b = freshD o b) :
    (b < 128 → DI t (Sx k b (o ++ [b])) ∧ Dm t (Sx k b (o ++ [b])) < t.length - k) ∧
    (¬ b < 128 → (misB b = 0 → DI t (Sx k b (o ++ [65533])) ∧ Dm t (Sx k b (o ++ [65533])) < t.length - k) ∧ (¬ misB b = 0 → DI t (Sx k b o) ∧ Dm t (Sx k b o) < t.length - k)) := by
  subst hb
  refine ⟨fun h => ?_, fun h => ⟨fun h' => ?_, fun h' => ?_⟩⟩
  · have hm : misB (t.getD k 0) = 0 := by unfold misB; (repeat' split) <;> omega
    exact DI.next hk hd (by rw [hs, fresh_lt o h]) (SOk.none_ k _ hm) rfl
  · exact DI.next hk hd (by rw [hs, fresh_none o h h']) (SOk.none_ k _ h') rfl
  · exact DI.next hk hd (by rw [hs, fresh_some o h h']) (SOk.begun k _ (by have := misB_pos (t.getD k 0); omega)) rfl
theorem next_value {vv b : Int} (h0 : 0 ≤ vv) (h1 : vv ≤ 32767) (hb : 128 ≤ b) (hb' : b ≤ 191) : bitsOp .i32 (fun x y => x ||| y) (shlOp .i32 vv 6) (IntKind.wrap .i32 (bitsOp .u8 (fun x y => x &&& y) b 63)) = vv * 64 + (b - 128) := by
  have e1 := and_mask8 63 (by decide) (b := b) (by omega) (by omega)
  rw [show ((63 : Nat) : Int) = 63 from rfl] at e1
  have e2 : shlOp .i32 vv 6 = vv * 64 := by
    unfold shlOp
    rw [show (2 : Int) ^ (Nat.min (6 : Int).toNat IntKind.i32.bits) = 64 from by decide]
    exact wrap_i32 (by omega) (by omega)
  rw [e1, e2, wrap_i32 (by omega) (by omega), or_i32 6 (by omega) (by omega) (by omega) (by omega) (by omega)]
  omega
end Go.Proofs.YtbeelajedknohaaDoor
