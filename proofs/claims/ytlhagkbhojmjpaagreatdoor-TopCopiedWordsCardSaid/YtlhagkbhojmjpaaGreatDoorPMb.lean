/- Written by this repo's own program out of its texts. -/
import Derived.Test.YtlhagkbhojmjpaaGreatDoorPMj
import Derived.Test.YtlhagkbhojmjpaaGreatDoorPU1
import Derived.Test.YtlhagkbhojmjpaaGreatDoorPFc
set_option linter.unusedSimpArgs false
set_option linter.unusedVariables false
set_option linter.unusedSectionVars false
namespace Go.Proofs.YtlhagkbhojmjpaaGreatDoor
def misB (b : Int) : Int := if 194 ≤ b ∧ b ≤ 223 then 1 else if 224 ≤ b ∧ b ≤ 239 then 2 else if 240 ≤ b ∧ b ≤ 244 then 3 else 0
theorem dec_snoc (l : List Int) (b : Int) (out K : List Int) (h : dec l = (out, K)) : dec (l ++ [b]) = stepD (out, K) b := by
 unfold dec at *
 rw [ze7, h]
 rfl
theorem zof (K : List Int) (b : Int) (h : K ≠ []) : valK (K ++ [b]) = valK K * 64 + (b - 128) := by
 cases K with
 | nil => exact absurd rfl h
 | cons a r => simp [valK, List.foldl_append]
theorem zrw (K : List Int) (b : Int) (h : K ≠ []) : leadK (K ++ [b]) = leadK K := by
 cases K with
 | nil => exact absurd rfl h
 | cons a r => rfl
theorem zfe (b : Int) : 0 ≤ fst1 b ∧ fst1 b ≤ 31 := by unfold fst1; (repeat' split) <;> omega
theorem zld (b : Int) : 128 ≤ lo1 b ∧ lo1 b ≤ 160 := by unfold lo1; (repeat' split) <;> omega
theorem zkw (b : Int) : 143 ≤ hi1 b ∧ hi1 b ≤ 191 := by unfold hi1; (repeat' split) <;> omega
theorem z8l (K : List Int) : 128 ≤ loK K ∧ loK K ≤ 160 := by
 match K with
 | [] => exact ⟨by decide, by decide⟩
 | [a] => exact zld a
 | a :: b :: r => exact ⟨show (128 : Int) ≤ 128 by decide, show (128 : Int) ≤ 160 by decide⟩
theorem hiK_bd (K : List Int) : 143 ≤ hiK K ∧ hiK K ≤ 191 := by
 match K with
 | [] => exact ⟨by decide, by decide⟩
 | [a] => exact zkw a
 | a :: b :: r => exact ⟨show (143 : Int) ≤ 191 by decide, show (191 : Int) ≤ 191 by decide⟩
structure SOk (K : List Int) (k s0 : Nat) (vv mm ll hh : Int) : Prop where
 good : Good K
 empty : K = [] → mm = 0
 full : K ≠ [] → vv = valK K ∧ mm = (leadK K : Int) - K.length ∧ ll = loK K ∧ hh = hiK K ∧ s0 + K.length = k ∧ 0 < mm
 v0 : 0 ≤ vv
 v1 : vv ≤ 32767 ∨ mm = 0
 m0 : 0 ≤ mm
 m1 : mm ≤ 3
 l0 : 0 ≤ ll
 l1 : ll ≤ 255
 g0 : 0 ≤ hh
 g1 : hh ≤ 255
 s1 : s0 ≤ k
theorem good_val (K : List Int) (h : Good K) : 0 ≤ valK K ∧ valK K ≤ 32767 := by
 match K, h with
 | [], _ => simp [valK]
 | [a], _ => have := zfe a; simp [valK]; omega
 | [a, b], h =>
  have := zfe a; have := zld a; have := zkw a
  simp only [Good] at h
  simp [valK]; omega
 | [a, b, c], h =>
  have hl := za7 a
  have := zld a; have := zkw a
  simp only [Good] at h
  have hf : fst1 a ≤ 4 := by
   unfold fst1
   (repeat' split) <;> omega
  have := zfe a
  simp [valK]; omega
theorem zvt (K : List Int) (h : Good K) (hn : K ≠ []) : K.length < leadK K ∧ leadK K ≤ 4 := by
 match K, h, hn with
 | [a], h, _ => have := za7 a; simp only [Good, leadK, List.length_cons, List.length_nil] at *; omega
 | [a, b], h, _ => have := za7 a; simp only [Good, leadK, List.length_cons, List.length_nil] at *; omega
 | [a, b, c], h, _ => have := za7 a; simp only [Good, leadK, List.length_cons, List.length_nil] at *; omega
theorem SOk.start : SOk [] 0 0 0 0 0 0 := ⟨trivial, fun _ => rfl, fun h => absurd rfl h, by omega, .inr rfl, by omega, by omega, by omega, by omega, by omega, by omega, by omega⟩
theorem SOk.done {K : List Int} {k s0 : Nat} {vv mm ll hh b v' : Int} (h : SOk K k s0 vv mm ll hh) (hm : 0 < mm) (h1 : ll ≤ b) (h2 : b ≤ hh) (hd : mm = 1) (hv : v' = vv * 64 + (b - 128)) :
  (∀ out, stepD (out, K) b = (out ++ [v'], [])) ∧ SOk [] (k + 1) s0 v' 0 128 191 := by
 have hK : K ≠ [] := fun e => by have := h.empty e; omega
 obtain ⟨e1, e2, e3, e4, e5, _⟩ := h.full hK
 have hr : loK K ≤ b ∧ b ≤ hiK K := by rw [← e3, ← e4]; exact ⟨h1, h2⟩
 have hb := z8l K
 have hg := zvt K h.good hK
 refine ⟨fun out => ?_, trivial, fun _ => rfl, fun h => absurd rfl h, ?_, .inr rfl, by omega, by omega, by omega, by omega, by omega, by omega, by have := h.s1; omega⟩
 ·unfold stepD
  dsimp only
  rw [if_neg hK, if_pos hr, if_pos (by omega), zof _ _ hK, ← e1, hv]
 ·have := h.v0; omega
theorem SOk.more {K : List Int} {k s0 : Nat} {vv mm ll hh b v' : Int} (h : SOk K k s0 vv mm ll hh) (hm : 0 < mm) (h1 : ll ≤ b) (h2 : b ≤ hh) (hd : mm ≠ 1) (hv : v' = vv * 64 + (b - 128)) :
  (∀ out, stepD (out, K) b = (out, K ++ [b])) ∧ SOk (K ++ [b]) (k + 1) s0 v' (mm - 1) 128 191 := by
 have hK : K ≠ [] := fun e => by have := h.empty e; omega
 obtain ⟨e1, e2, e3, e4, e5, _⟩ := h.full hK
 have hr : loK K ≤ b ∧ b ≤ hiK K := by rw [← e3, ← e4]; exact ⟨h1, h2⟩
 have hb := z8l K
 have hg := zvt K h.good hK
 have hs : stepD ([], K) b = ([], K ++ [b]) := by
  unfold stepD
  dsimp only
  rw [if_neg hK, if_pos hr, if_neg (by omega)]
 have hgood : Good (K ++ [b]) := by have := zek ([], K) b h.good; rw [hs] at this; exact this
 have hval := good_val _ hgood
 have hlen : (K ++ [b]).length = K.length + 1 := by simp
 have h2b : 2 ≤ (K ++ [b]).length := by
  cases K with
  | nil => exact absurd rfl hK
  | cons a r => simp
 have hlo : loK (K ++ [b]) = 128 := by
  match K, hK with
  | [a], _ => rfl
  | a :: c :: r, _ => rfl
 have hhi : hiK (K ++ [b]) = 191 := by
  match K, hK with
  | [a], _ => rfl
  | a :: c :: r, _ => rfl
 have hvv : v' = valK (K ++ [b]) := by rw [zof _ _ hK, ← e1, hv]
 refine ⟨fun out => ?_, hgood, fun e => by simp at e, fun _ => ⟨hvv, by rw [zrw _ _ hK, hlen]; omega, hlo.symm, hhi.symm, by rw [hlen]; omega, by omega⟩, by omega, .inl (by omega), by omega, by have := h.m1; omega, by omega, by omega, by omega, by omega, by have := h.s1; omega⟩
 unfold stepD
 dsimp only
 rw [if_neg hK, if_pos hr, if_neg (by omega)]
theorem zex (out K : List Int) (b : Int) (hK : K ≠ []) (h : ¬ (loK K ≤ b ∧ b ≤ hiK K)) : stepD (out, K) b = stepD (out ++ [65533], []) b := by
 unfold stepD
 dsimp only
 rw [if_neg hK, if_neg h, if_pos rfl]
theorem zmk (b : Int) : (misB b = 0 ∧ lead b = 0) ∨ (0 < misB b ∧ misB b ≤ 3 ∧ 0 < lead b ∧ misB b = (lead b : Int) - 1) := by
 unfold misB lead
 (repeat' split) <;> simp
theorem SOk.begun (k : Nat) (b : Int) (hl : 0 < lead b) : SOk [b] (k + 1) k (fst1 b) (misB b) (lo1 b) (hi1 b) := by
 have h1 := zfe b
 have h2 := zld b
 have h3 := zkw b
 have h4 := zmk b
 refine ⟨hl, fun e => by simp at e, fun _ => ⟨rfl, by simp only [leadK, List.length_cons, List.length_nil]; omega, rfl, rfl, by simp, by omega⟩, h1.1, .inl (by omega), by omega, by omega, by omega, by omega, by omega, by omega, by omega⟩
theorem SOk.none_ (k : Nat) (b : Int) (hl : misB b = 0) : SOk [] (k + 1) k (fst1 b) (misB b) (lo1 b) (hi1 b) := by
 have h1 := zfe b
 have h2 := zld b
 have h3 := zkw b
 exact ⟨trivial, fun _ => hl, fun h => absurd rfl h, h1.1, .inr hl, by omega, by omega, by omega, by omega, by omega, by omega, by omega⟩
end Go.Proofs.YtlhagkbhojmjpaaGreatDoor
namespace Go.Proofs.YtlhagkbhojmjpaaGreatDoor
theorem and31 {b : Int} (h : 194 ≤ b) (k : b ≤ 223) : IntKind.wrap .i32 (zbw .u8 (fun x y => x &&& y) b 31) = b - 192 := by
 have := zhk 31 (by decide) (b := b) (by omega) (by omega)
 rw [show ((31 : Nat) : Int) = 31 from rfl] at this
 rw [this, zax (by omega) (by omega)]; omega
theorem and15 {b : Int} (h : 224 ≤ b) (k : b ≤ 239) : IntKind.wrap .i32 (zbw .u8 (fun x y => x &&& y) b 15) = b - 224 := by
 have := zhk 15 (by decide) (b := b) (by omega) (by omega)
 rw [show ((15 : Nat) : Int) = 15 from rfl] at this
 rw [this, zax (by omega) (by omega)]; omega
theorem and7 {b : Int} (h : 240 ≤ b) (k : b ≤ 244) : IntKind.wrap .i32 (zbw .u8 (fun x y => x &&& y) b 7) = b - 240 := by
 have := zhk 7 (by decide) (b := b) (by omega) (by omega)
 rw [show ((7 : Nat) : Int) = 7 from rfl] at this
 rw [this, zax (by omega) (by omega)]; omega
def seqT (v m l h : Int) : TV := .agg [.int v, .int m, .int l, .int h]
def beginL : Law := ⟨fun ts => ∃ b, ts = [.int b] ∧ 0 ≤ b ∧ b ≤ 255, fun ts r => ∀ b, ts = [.int b] → r = seqT (fst1 b) (misB b) (lo1 b) (hi1 b)⟩
theorem begin_c (k : Nat) : Contract Tryz.prog (mkEnv globT []) gtab (ze4 k) beginL.pre beginL.post := zhu (fun _ => rfl) (fun s hs => by cases hs) k (by
 rintro ts hl ⟨b, rfl, h0, h1⟩
 unfold tr_utf8stream_begin
 simp only [Tree.den, E.den, P1.den, P2.den, P3.den, TV.cell, ne_eq, forall_eq, Int.reduceToNat, exists_eq_left', qz]
 have fin : ∀ r : TV, r = seqT (fst1 b) (misB b) (lo1 b) (hi1 b) → beginL.post [.int b] r := fun r hr b' e => by
  simp only [List.cons.injEq, TV.int.injEq, and_true] at e
  subst e
  exact hr
 generalize beginL.post [TV.int b] = R at fin ⊢
 repeat' (first | apply And.intro | intro _)
 all_goals
  refine fin _ ?_
  clear fin
  first
  |(exfalso; omega)
  |(unfold seqT fst1 misB lo1 hi1
    congr 1
    (repeat' split) <;> first | (exfalso; omega) | rfl | (rw [and31 (by omega) (by omega)]) | (rw [and15 (by omega) (by omega)]) | (rw [and7 (by omega) (by omega)])))
theorem z7u {b : Int} (h : 0 ≤ b ∧ b ≤ 255) : beginL.pre [.int b] := ⟨b, rfl, h.1, h.2⟩
theorem z7t {b : Int} {Q : TV → Prop} : (∀ r, beginL.post [.int b] r → Q r) ↔ Q (seqT (fst1 b) (misB b) (lo1 b) (hi1 b)) :=
 ⟨fun h => h _ fun b' e => by simp only [List.cons.injEq, TV.int.injEq, and_true] at e; rw [e], fun h r hr => by rw [hr b rfl]; exact h⟩
def unbs (l : List Int) : List UInt8 := l.map fun n => UInt8.ofNat n.toNat
theorem zlo (s : List UInt8) : unbs (bs s) = s := by
 have := byteOf_bs s
 simp only [List.map_map] at this
 exact this
def decT (s : List UInt8) : TV := .agg [ints (dec (bs s)).1, .str (unbs (dec (bs s)).2)]
def decodeL : Law := ⟨fun ts => ∃ p c, ts = [.str p, .str c] ∧ p.length + c.length ≤ 1099511627776, fun ts r => ∀ p c, ts = [.str p, .str c] → r = decT (p ++ c)⟩
def DI (t : List Int) (xs : List TV) : Prop := ∃ (s0 k : Nat) (vv mm ll hh : Int) (out K : List Int), xs = [.int s0, .int k, .int vv, .int mm, .int ll, .int hh, ints out] ∧ k ≤ t.length ∧ SOk K k s0 vv mm ll hh ∧ dec (t.take k) = (out, K)
def Dm (t : List Int) (xs : List TV) : Nat := t.length - (xs.getD 1 (.int 0)).asInt.toNat
theorem DI.next {t : List Int} {k s0 : Nat} {vv mm ll hh : Int} {out K out' K' : List Int} {xs : List TV} (hk : k < t.length) (hd : dec (t.take k) = (out, K)) (hs : stepD (out, K) (t.getD k 0) = (out', K')) (ho : SOk K' (k + 1) s0 vv mm ll hh)
  (he : xs = [.int s0, .int (k + 1), .int vv, .int mm, .int ll, .int hh, ints out']) : DI t xs ∧ Dm t xs < t.length - k := by
 refine ⟨⟨s0, k + 1, vv, mm, ll, hh, out', K', by rw [he]; rfl, by omega, ho, ?_⟩, ?_⟩
 ·rw [zbd hk, dec_snoc _ _ _ _ hd, hs]
 ·rw [he]
  simp only [Dm, List.getD_cons_succ, List.getD_cons_zero, zac]
  omega
theorem z2a {b : Int} (o : List Int) (h : b < 128) : zba o b = (o ++ [b], []) := by unfold zba; rw [if_pos h]
theorem z27 {b : Int} (o : List Int) (h : ¬ b < 128) (k : misB b = 0) : zba o b = (o ++ [65533], []) := by
 unfold zba; rw [if_neg h, if_neg (by have := zmk b; omega)]
theorem z4i {b : Int} (o : List Int) (h : ¬ b < 128) (k : ¬ misB b = 0) : zba o b = (o, [b]) := by
 unfold zba; rw [if_neg h, if_pos (by have := zmk b; omega)]
def Sx (k : Nat) (b : Int) (o : List Int) : List TV := [.int k, .int (k + 1), .int (fst1 b), .int (misB b), .int (lo1 b), .int (hi1 b), ints o]
theorem DI.fresh {t : List Int} {k : Nat} {out K o : List Int} {b : Int} (hk : k < t.length) (hd : dec (t.take k) = (out, K)) (hb : t.getD k 0 = b) (hs : stepD (out, K) b = zba o b) :
  (b < 128 → DI t (Sx k b (o ++ [b])) ∧ Dm t (Sx k b (o ++ [b])) < t.length - k) ∧
  (¬ b < 128 → (misB b = 0 → DI t (Sx k b (o ++ [65533])) ∧ Dm t (Sx k b (o ++ [65533])) < t.length - k) ∧ (¬ misB b = 0 → DI t (Sx k b o) ∧ Dm t (Sx k b o) < t.length - k)) := by
 subst hb
 refine ⟨fun h => ?_, fun h => ⟨fun h' => ?_, fun h' => ?_⟩⟩
 ·have hm : misB (t.getD k 0) = 0 := by unfold misB; (repeat' split) <;> omega
  exact DI.next hk hd (by rw [hs, z2a o h]) (SOk.none_ k _ hm) rfl
 ·exact DI.next hk hd (by rw [hs, z27 o h h']) (SOk.none_ k _ h') rfl
 ·exact DI.next hk hd (by rw [hs, z4i o h h']) (SOk.begun k _ (by have := zmk (t.getD k 0); omega)) rfl
theorem z3s {vv b : Int} (h0 : 0 ≤ vv) (h1 : vv ≤ 32767) (hb : 128 ≤ b) (hb' : b ≤ 191) : zbw .i32 (fun x y => x ||| y) (shlOp .i32 vv 6) (IntKind.wrap .i32 (zbw .u8 (fun x y => x &&& y) b 63)) = vv * 64 + (b - 128) := by
 have e1 := zhk 63 (by decide) (b := b) (by omega) (by omega)
 rw [show ((63 : Nat) : Int) = 63 from rfl] at e1
 have e2 : shlOp .i32 vv 6 = vv * 64 := by
  unfold shlOp
  rw [show (2 : Int) ^ (Nat.min (6 : Int).toNat IntKind.i32.bits) = 64 from by decide]
  exact zax (by omega) (by omega)
 rw [e1, e2, zax (by omega) (by omega), or_i32 6 (by omega) (by omega) (by omega) (by omega) (by omega)]
 omega
end Go.Proofs.YtlhagkbhojmjpaaGreatDoor
namespace Go.Proofs.YtlhagkbhojmjpaaGreatDoor
theorem zo6 (k : Nat) : Contract Tryz.prog (mkEnv globT []) gtab (zcj k) decodeL.pre decodeL.post := Contract.env (Γ := mkEnv globT [beginL]) (zha (fun _ => rfl) (fun s hs => by
  simp only [cx_utf8stream_Decode, List.mem_singleton] at hs
  subst hs
  exact Contract.inEnv rfl (begin_c 0) rfl) k (by
 rintro ts hl ⟨p, c, rfl, hsz⟩
 have fin : ∀ r : TV, r = decT (p ++ c) → decodeL.post [.str p, .str c] r := fun r hr p' c' e => by
  simp only [List.cons.injEq, TV.str.injEq, and_true] at e
  obtain ⟨rfl, rfl⟩ := e
  exact hr
 generalize decodeL.post [.str p, .str c] = R at fin ⊢
 have hlt : (p ++ c).length ≤ 1099511627776 := by simpa using hsz
 unfold tr_utf8stream_Decode
 simp only [Tree.den, E.den, P1.den, P2.den, P3.den, TV.cell, ne_eq, forall_eq, Int.reduceToNat, exists_eq_left', qz]
 generalize p ++ c = s at *
 refine ⟨by omega, DI (bs s), Dm (bs s), ?_, fun xs hxl hI => ?_⟩
 ·exact ⟨0, 0, 0, 0, 0, 0, [], [], rfl, by omega, SOk.start, rfl⟩
 ·obtain ⟨s0, k, vv, mm, ll, hh, out, K, rfl, hk, ho, hd⟩ := hI
  have hD : Dm (bs s) [.int s0, .int k, .int vv, .int mm, .int ll, .int hh, ints out] = (bs s).length - k := rfl
  have hlen := zfq ((bs s).take k)
  rw [hd] at hlen
  have htl := List.length_take_le k (bs s)
  have hb := zp6 s k
  have hbl := zak s
  simp only [Tree.den, E.den, P1.den, P2.den, P3.den, TV.cell, ne_eq, forall_eq, Int.reduceToNat, exists_eq_left', qz, zaj, zao, zaq, zan, zap, zam, zal, zar, qv, qq, qr, zak, hD]
  have e64 : IntKind.wrap .i64 ((k : Int) + 1) = k + 1 := wrap_i64 (by omega) (by omega)
  have em : IntKind.wrap .i64 (mm - 1) = mm - 1 := by have := ho.m0; have := ho.m1; exact wrap_i64 (by omega) (by omega)
  rw [e64, em]
  generalize hbb : (bs s).getD k 0 = b at *
  have e32 : IntKind.wrap .i32 b = b := zax (by omega) (by omega)
  simp only [z7t, seqT, Tree.den, E.den, P1.den, P2.den, P3.den, TV.cell, ne_eq, forall_eq, Int.reduceToNat, exists_eq_left', qz, zaj, zao, zaq, zan, zap, zam, zal, zar, qv, qq, qr, zak, e32]
  have hpre := z7u hb
  have hm0 := ho.m0
  have hv : 0 < mm → ll ≤ b → b ≤ hh → zbw .i32 (fun x y => x ||| y) (shlOp .i32 vv 6) (IntKind.wrap .i32 (zbw .u8 (fun x y => x &&& y) b 63)) = vv * 64 + (b - 128) := fun hm h1 h2 => by
   have hK : K ≠ [] := fun e => by have := ho.empty e; omega
   have := ho.full hK
   have := z8l K
   have := hiK_bd K
   have := ho.v1
   exact z3s ho.v0 (by omega) (by omega) (by omega)
  have hout : 0 < mm → ¬ (ll ≤ b ∧ b ≤ hh) → stepD (out, K) b = zba (out ++ [65533]) b := fun hm h => by
   have hK : K ≠ [] := fun e => by have := ho.empty e; omega
   have hf := ho.full hK
   rw [zex out K b hK (by rw [← hf.2.2.1, ← hf.2.2.2.1]; exact h)]
   unfold stepD
   rw [if_pos rfl]
  have hnew : ¬ 0 < mm → stepD (out, K) b = zba out b := fun hm => by
   have hK : K = [] := by
    cases K with
    | nil => rfl
    | cons a r => have := ho.full (by simp); omega
   subst hK
   unfold stepD
   rw [if_pos rfl]
  have hone : 0 < mm → 0 < K.length := fun hm => by
   cases K with
   | nil => have := ho.empty rfl; omega
   | cons a r => simp
  dsimp only at hlen
  refine ⟨fun hk' => ⟨by omega, by omega, fun hm => ⟨fun h1 => ⟨fun h2 => ⟨fun hd1 => ⟨by omega, ?_⟩, fun hd1 => ?_⟩, fun h2 => ⟨fun _ => ⟨by omega, hpre, ?_⟩, fun h => absurd hm h⟩⟩, fun h1 => ⟨fun _ => ⟨by omega, hpre, ?_⟩, fun h => absurd hm h⟩⟩, fun hm => ⟨fun h => absurd h hm, fun _ => ⟨hpre, ?_⟩⟩⟩, fun hk' => ⟨fun hm => ?_, fun hm => ?_⟩⟩
  all_goals try rw [hv hm h1 h2]
  ·obtain ⟨q1, q2⟩ := ho.done hm h1 h2 (by omega) rfl
   rw [← hbl]
   exact DI.next (by omega) hd (by rw [hbb]; exact q1 out) q2 (by rw [hd1])
  ·obtain ⟨q1, q2⟩ := ho.more hm h1 h2 (by omega) rfl
   rw [← hbl]
   exact DI.next (by omega) hd (by rw [hbb]; exact q1 out) q2 rfl
  ·have H := DI.fresh (by omega) hd hbb (hout hm (by omega))
   have := hone hm
   rw [hbl] at H
   exact ⟨fun h => ⟨by omega, H.1 h⟩, fun h => ⟨fun h' => ⟨by omega, (H.2 h).1 h'⟩, (H.2 h).2⟩⟩
  ·have H := DI.fresh (by omega) hd hbb (hout hm (by omega))
   have := hone hm
   rw [hbl] at H
   exact ⟨fun h => ⟨by omega, H.1 h⟩, fun h => ⟨fun h' => ⟨by omega, (H.2 h).1 h'⟩, (H.2 h).2⟩⟩
  ·have H := DI.fresh (by omega) hd hbb (hnew hm)
   rw [hbl] at H
   exact ⟨fun h => ⟨by omega, H.1 h⟩, fun h => ⟨fun h' => ⟨by omega, (H.2 h).1 h'⟩, (H.2 h).2⟩⟩
  ·have hK : K = [] := by
    cases K with
    | nil => rfl
    | cons a r => have := ho.full (by simp); omega
   subst hK
   rw [List.take_of_length_le (by omega)] at hd
   refine fin _ ?_
   unfold decT
   rw [hd]
   rfl
  ·have hK : K ≠ [] := fun e => hm (ho.empty e)
   have hf := ho.full hK
   rw [List.take_of_length_le (by omega)] at hd
   refine ⟨by omega, by omega, fin _ ?_⟩
   unfold decT
   obtain ⟨pre, hp⟩ := zqh (bs s)
   rw [hd] at hp ⊢
   dsimp only at hp ⊢
   have hpl : pre.length = s0 := by have := congrArg List.length hp; simp only [List.length_append] at this; omega
   have e : K = bs (s.drop s0) := by
    rw [z25, hp, ← hpl, List.drop_left]
   rw [e, zlo, List.take_of_length_le (by simp)])) rfl
end Go.Proofs.YtlhagkbhojmjpaaGreatDoor
namespace Go.Proofs.YtlhagkbhojmjpaaGreatDoor
theorem zsm {l : List Int} : unbs l = [] ↔ l = [] := by cases l <;> simp [unbs]
theorem zck {p c : List UInt8} (h : p.length + c.length ≤ 1099511627776) : decodeL.pre [.str p, .str c] := ⟨p, c, rfl, h⟩
theorem zch {p c : List UInt8} {Q : TV → Prop} : (∀ r, decodeL.post [.str p, .str c] r → Q r) ↔ Q (decT (p ++ c)) :=
 ⟨fun h => h _ fun p' c' e => by simp only [List.cons.injEq, TV.str.injEq, and_true] at e; rw [e.1, e.2], fun h r hr => by rw [hr p c rfl]; exact h⟩
def finishL : Law := ⟨fun ts => ∃ p, ts = [.str p] ∧ p.length ≤ 1099511627775, fun ts r => ∀ p, ts = [.str p] → r = ints (fin (bs p))⟩
theorem zdy {p : List UInt8} (h : p.length ≤ 1099511627775) : finishL.pre [.str p] := ⟨p, rfl, h⟩
theorem zb1 {p : List UInt8} {Q : TV → Prop} : (∀ r, finishL.post [.str p] r → Q r) ↔ Q (ints (fin (bs p))) :=
 ⟨fun h => h _ fun p' e => by simp only [List.cons.injEq, TV.str.injEq, and_true] at e; rw [e], fun h r hr => by rw [hr p rfl]; exact h⟩
end Go.Proofs.YtlhagkbhojmjpaaGreatDoor
namespace Go.Proofs.YtlhagkbhojmjpaaGreatDoor
def Byte (l : List Int) : Prop := ∀ b ∈ l, 0 ≤ b ∧ b ≤ 255
theorem Byte.get {l : List Int} (h : Byte l) (i : Nat) : 0 ≤ l.getD i 0 ∧ l.getD i 0 ≤ 255 := by
 rw [List.getD_eq_getElem?_getD]
 cases hx : l[i]? with
 | none => simp
 | some x => exact h x (List.mem_of_getElem? hx)
def RI (t : List Int) (xs : List TV) : Prop := ∃ (k : Nat) (out K : List Int), xs = [.int k, ints out, ints K] ∧ k ≤ t.length ∧ Good K ∧ Byte K ∧ decF (out, K) (t.drop k) = dec t ∧ out.length + (if K = [] then 0 else 1) ≤ k
def Rm (t : List Int) (xs : List TV) : Nat := 2 * (t.length - (xs.getD 0 (.int 0)).asInt.toNat) + (if (xs.getD 2 (.int 0)).asList.length = 0 then 0 else 1)
theorem zwb {l : List Int} {k : Nat} (h : k < l.length) : l.drop k = l.getD k 0 :: l.drop (k + 1) := by
 rw [List.drop_eq_getElem_cons h, List.getD_eq_getElem?_getD, List.getElem?_eq_getElem h]
 rfl
theorem RI.next {t out K out' K' : List Int} {k : Nat} {b : Int} (hk : k < t.length) (hbb : t.getD k 0 = b) (hd : decF (out, K) (t.drop k) = dec t) (hs : stepD (out, K) b = (out', K')) (hg : Good K) (hb : Byte K')
  (hlen : out'.length + (if K' = [] then 0 else 1) ≤ k + 1) : RI t [.int (k + 1), ints out', ints K'] ∧ Rm t [.int (k + 1), ints out', ints K'] < 2 * (t.length - k) + (if K.length = 0 then 0 else 1) := by
 refine ⟨⟨k + 1, out', K', rfl, by omega, ?_, hb, ?_, hlen⟩, ?_⟩
 ·have := zek (out, K) b hg; rw [hs] at this; exact this
 ·rw [← hd, zwb hk, hbb]
  show _ = decF (stepD (out, K) b) _
  rw [hs]
 ·simp only [Rm, List.getD_cons_zero, List.getD_cons_succ, zac, zal]
  have : (if K'.length = 0 then 0 else 1) ≤ 1 := by split <;> omega
  omega
theorem zec {l : List Int} (h : Byte l) : bs (unbs l) = l := by
 unfold bs unbs
 rw [List.map_map]
 conv => rhs; rw [← List.map_id l]
 refine List.map_congr_left fun b hb => ?_
 have := h b hb
 simp only [Function.comp, id, UInt8.toNat_ofNat']
 omega
theorem zi3 (l : List Int) : (unbs l).length = l.length := by simp [unbs]
end Go.Proofs.YtlhagkbhojmjpaaGreatDoor
namespace Go.Proofs.YtlhagkbhojmjpaaGreatDoor
theorem zm5 (k : Nat) : Contract Tryz.prog (mkEnv globT []) gtab (zbz k) finishL.pre finishL.post := Contract.env (Γ := mkEnv globT [decodeL]) (zg5 (fun _ => rfl) (fun s hs => by
  simp only [cx_utf8stream_Finish, List.mem_singleton] at hs
  subst hs
  exact Contract.inEnv rfl (zo6 0) rfl) k (by
 rintro ts hl ⟨p, rfl, hsz⟩
 have hfin : ∀ r : TV, r = ints (fin (bs p)) → finishL.post [.str p] r := fun r hr p' e => by
  simp only [List.cons.injEq, TV.str.injEq, and_true] at e
  subst e
  exact hr
 generalize finishL.post [.str p] = R at hfin ⊢
 unfold tr_utf8stream_Finish
 have hlen := zfq (bs p)
 have := zak p
 simp only [Tree.den, E.den, P1.den, P2.den, P3.den, TV.cell, ne_eq, forall_eq, Int.reduceToNat, exists_eq_left', qz, zch, decT]
 simp only [Tree.den, E.den, P1.den, P2.den, P3.den, TV.cell, ne_eq, forall_eq, Int.reduceToNat, exists_eq_left', qz, zaj, zao, zaq, zan, zap, zam, zal, zar, qv, qq, qr, zak, zsm]
 refine ⟨zck (by rw [List.length_nil]; omega), fun h => ⟨by omega, hfin _ ?_⟩, fun h => hfin _ ?_⟩
 ·unfold fin; rw [if_neg h]
 ·unfold fin; rw [if_pos h, List.append_nil])) rfl
end Go.Proofs.YtlhagkbhojmjpaaGreatDoor
