/- Written by this repo's own program out of its texts. -/
import Derived.Test.YtlhagkbhojmjpaaGreatDoorPMb
import Derived.Test.YtlhagkbhojmjpaaGreatDoorPMj
import Derived.Test.YtlhagkbhojmjpaaGreatDoorRows
import Derived.Test.YtlhagkbhojmjpaaGreatDoorPFc
import Derived.Lib.SmallJoins
import Derived.ChangeOld
import Derived.Shelf.Unicode.ValidAny
import Derived.Test.YtlhagkbhojmjpaaGreatDoorPMa
set_option linter.unusedSimpArgs false
set_option linter.unusedVariables false
set_option linter.unusedSectionVars false
namespace Go.Proofs.YtlhagkbhojmjpaaGreatDoor
open Go.Lib (encodeRuneZ)
theorem or8_192 : ∀ x : Fin 32, zbw .u8 (fun a b => a ||| b) 192 ((x.val : Nat) : Int) = 192 + (x.val : Nat) := by decide +kernel
theorem or8_128 : ∀ x : Fin 64, zbw .u8 (fun a b => a ||| b) 128 ((x.val : Nat) : Int) = 128 + (x.val : Nat) := by decide +kernel
theorem or8_224 : ∀ x : Fin 16, zbw .u8 (fun a b => a ||| b) 224 ((x.val : Nat) : Int) = 224 + (x.val : Nat) := by decide +kernel
theorem or8_240 : ∀ x : Fin 8, zbw .u8 (fun a b => a ||| b) 240 ((x.val : Nat) : Int) = 240 + (x.val : Nat) := by decide +kernel
theorem or192 {x : Int} (h : 0 ≤ x) (k : x < 32) : zbw .u8 (fun a b => a ||| b) 192 x = 192 + x := by
 obtain ⟨n, rfl⟩ := Int.eq_ofNat_of_zero_le h
 exact or8_192 ⟨n, by omega⟩
theorem or128 {x : Int} (h : 0 ≤ x) (k : x < 64) : zbw .u8 (fun a b => a ||| b) 128 x = 128 + x := by
 obtain ⟨n, rfl⟩ := Int.eq_ofNat_of_zero_le h
 exact or8_128 ⟨n, by omega⟩
theorem or224 {x : Int} (h : 0 ≤ x) (k : x < 16) : zbw .u8 (fun a b => a ||| b) 224 x = 224 + x := by
 obtain ⟨n, rfl⟩ := Int.eq_ofNat_of_zero_le h
 exact or8_224 ⟨n, by omega⟩
theorem or240 {x : Int} (h : 0 ≤ x) (k : x < 8) : zbw .u8 (fun a b => a ||| b) 240 x = 240 + x := by
 obtain ⟨n, rfl⟩ := Int.eq_ofNat_of_zero_le h
 exact or8_240 ⟨n, by omega⟩
theorem and63 (x : Int) : zbw .u8 (fun a b => a &&& b) (IntKind.wrap .u8 x) 63 = x % 64 := by
 rw [zjd, show (63 : Int) = ((63 : Nat) : Int) from rfl, zhk 63 (by simp) (by omega) (by omega)]
 omega
theorem z99 (k : IntKind) (x : Int) (j : Nat) (hj : j ≤ k.bits) (h : 0 ≤ x) : shrOp k x j = x / (2 ^ j : Nat) := by
 unfold shrOp
 rw [show Nat.min (((j : Nat) : Int).toNat) k.bits = j by rw [Int.toNat_natCast]; exact Nat.min_eq_left hj, Int.fdiv_eq_ediv_of_nonneg _ (by exact_mod_cast Nat.zero_le _)]
 norm_cast
theorem shr6 {x : Int} (h : 0 ≤ x) : shrOp .i32 x 6 = x / 64 := z99 .i32 x 6 (by decide) h
theorem shr12 {x : Int} (h : 0 ≤ x) : shrOp .i32 x 12 = x / 4096 := z99 .i32 x 12 (by decide) h
theorem shr18 {x : Int} (h : 0 ≤ x) : shrOp .i32 x 18 = x / 262144 := z99 .i32 x 18 (by decide) h
theorem wrapu32 {n : Int} (h : -2147483648 ≤ n) (k : n ≤ 2147483647) : (0 ≤ n ∧ IntKind.wrap .u32 n = n) ∨ (n < 0 ∧ 2147483648 ≤ IntKind.wrap .u32 n) := by rw [wrap_u32]; omega
def Run (l : List Int) : Prop := ∀ n ∈ l, -2147483648 ≤ n ∧ n ≤ 2147483647
theorem Chars.run {l : List Int} (h : Chars l) : Run l := fun n hn => by have := h n hn; unfold isCh at this; omega
theorem zmx {l : List Int} {k : Nat} (h : k < l.length) : l.getD k 0 ∈ l := by
 rw [List.getD_eq_getElem?_getD, List.getElem?_eq_getElem h]; exact List.getElem_mem h
theorem zrx (l : List Int) : (l.map TV.int).map zfw = unbs l := by
 unfold unbs
 rw [List.map_map]
 rfl
theorem enc_big {n : Int} (h : 1114111 < n) : encodeRuneZ n = [239, 191, 189] := by
 unfold encodeRuneZ
 rw [if_neg (by omega), if_neg (by omega), if_neg (by omega), if_neg (by omega)]
theorem enc_neg {n : Int} (h : n < 0) : encodeRuneZ n = [239, 191, 189] := by
 unfold encodeRuneZ
 rw [if_neg (by omega), if_neg (by omega), if_neg (by omega), if_neg (by omega)]
theorem enc_sur {n : Int} (h : 55296 ≤ n) (k : n ≤ 57343) : encodeRuneZ n = [239, 191, 189] := by
 unfold encodeRuneZ
 rw [if_neg (by omega), if_neg (by omega), if_neg (by omega), if_neg (by omega)]
def encL : Law := ⟨fun ts => ∃ (l : List Int), ts = [ints l] ∧ (Run l ∧ l.length ≤ 100000000000), fun ts z₀ => ∀ (l : List Int), ts = [ints l] → z₀ = .str (unbs (encZ l))⟩
theorem ze3 {l : List Int} (h : Run l ∧ l.length ≤ 100000000000) : encL.pre [ints l] := ⟨l, rfl, h⟩
theorem z9r {l : List Int} {z₀ : TV} (h : z₀ = .str (unbs (encZ l))) : encL.post [ints l] z₀ := fun l₁ e => by
 simp only [qy] at e; subst e
 exact h
theorem zhf {l : List Int} {Q : TV → Prop} : (∀ z₀, encL.post [ints l] z₀ → Q z₀) ↔ Q (.str (unbs (encZ l))) := ⟨fun h => h _ (z9r rfl), fun h z₀ hr => by rw [hr _ rfl]; exact h⟩
def EI (l : List Int) (xs : List TV) : Prop := ∃ k : Nat, xs = [.int k, ints (encZ (l.take k))] ∧ k ≤ l.length
def Em (l : List Int) (xs : List TV) : Nat := l.length - (xs.getD 0 (.int 0)).asInt.toNat
theorem enc_c (k : Nat) : Contract Tryz.prog (mkEnv globT []) gtab (zci k) encL.pre encL.post := Contract.env (Γ := mkEnv globT []) (zg9 (fun _ => rfl) (fun s hs => by
  cases hs) k (by
 rintro ts hl ⟨l, rfl, hp⟩
 have hfin : ∀ z₀ : TV, z₀ = .str (unbs (encZ l)) → encL.post [ints l] z₀ := fun z₀ h => z9r h
 generalize encL.post [ints l] = R at hfin ⊢
 unfold tr_utf8stream_Encode
 obtain ⟨hr, hsz⟩ := hp
 simp only [Tree.den, E.den, P1.den, P2.den, P3.den, TV.cell, ne_eq, forall_eq, Int.reduceToNat, exists_eq_left', qz]
 simp only [Tree.den, E.den, P1.den, P2.den, P3.den, TV.cell, ne_eq, forall_eq, Int.reduceToNat, exists_eq_left', qz, zaj, zao, zaq, zan, zap, zam, zal, zar, qv, qq, qr, zak]
 refine ⟨EI l, Em l, ⟨0, rfl, by omega⟩, ?_⟩
 rintro xs _ ⟨k, rfl, hk⟩
 have hD : ∀ o, Em l [.int (k : Int), o] = l.length - k := fun o => rfl
 have hel := zcp (l.take k)
 have htl := List.length_take_le k l
 simp only [Tree.den, E.den, P1.den, P2.den, P3.den, TV.cell, ne_eq, forall_eq, Int.reduceToNat, exists_eq_left', qz, zaj, zao, zaq, zan, zap, zam, zal, zar, qv, qq, qr, zak, hD]
 have e64 : IntKind.wrap .i64 ((k : Int) + 1) = ((k + 1 : Nat) : Int) := by rw [wrap_i64 (n := (k : Int) + 1) (by omega) (by omega)]; omega
 rw [e64]
 refine ⟨fun hlt => ⟨by omega, by omega, ?_⟩, fun hlt => ?_⟩
 ·have hkl : k < l.length := by omega
  have hn := hr _ (zmx hkl)
  have hs := zbd hkl
  generalize hnn : l.getD k 0 = n at *
  have go : ∀ w, w = encodeRuneZ n → EI l [.int ((k + 1 : Nat) : Int), ints (encZ (l.take k) ++ w)] ∧ Em l [.int ((k + 1 : Nat) : Int), ints (encZ (l.take k) ++ w)] < l.length - k := fun w hw => by
   refine ⟨⟨k + 1, ?_, by omega⟩, ?_⟩
   ·rw [hs, zbh, z2f, hw]
   ·simp only [Em, List.getD_cons_zero, zac]; omega
  have l1 : ∀ a : Int, [TV.int a] = [a].map TV.int := fun _ => rfl
  have lc : ∀ (a : Int) (m : List Int), TV.int a :: m.map TV.int = (a :: m).map TV.int := fun _ _ => rfl
  simp only [l1, lc, zaq, zan]
  rcases wrapu32 hn.1 hn.2 with ⟨h0, ew⟩ | ⟨h0, ew⟩
  ·rw [ew]
   refine ⟨fun h1 => ⟨by omega, go _ ?_⟩, fun h1 => ⟨fun h2 => ⟨by omega, go _ ?_⟩, fun h2 => ⟨fun h3 => ⟨by omega, go _ ?_⟩, fun h3 => ⟨fun h4 => ⟨fun h5 => ⟨by omega, go _ ?_⟩, fun h5 => ⟨fun h6 => ⟨fun h7 => ⟨by omega, go _ ?_⟩, fun h7 => ⟨by omega, go _ ?_⟩⟩, fun h6 => ⟨by omega, go _ ?_⟩⟩⟩, fun h4 => ⟨fun h5 => ⟨fun h6 => ⟨by omega, go _ ?_⟩, fun h6 => ⟨by omega, go _ ?_⟩⟩, fun h5 => ⟨by omega, go _ ?_⟩⟩⟩⟩⟩⟩
   ·rw [Lib.encodeRuneZ_one h0 (by omega), zjd]
    congr 1
    omega
   ·rw [Lib.encodeRuneZ_two (by omega) (by omega), and63, shr6 h0, zjd, or128 (by omega) (by omega), or192 (by omega) (by omega)]
    congr 1
    omega
   ·rw [Lib.encodeRuneZ_three (by omega), and63, and63, shr6 h0, shr12 h0, zjd, or128 (by omega) (by omega), or128 (by omega) (by omega), or224 (by omega) (by omega)]
    congr 1
    omega
   ·rw [Lib.encodeRuneZ_three (by omega), and63, and63, shr6 h0, shr12 h0, zjd, or128 (by omega) (by omega), or128 (by omega) (by omega), or224 (by omega) (by omega)]
    congr 1
    omega
   ·rw [show encodeRuneZ n = [240 + n / 262144, 128 + n / 4096 % 64, 128 + n / 64 % 64, 128 + n % 64] by unfold encodeRuneZ; rw [if_neg (by omega), if_neg (by omega), if_neg (by omega), if_pos (by omega)]]
    rw [and63, and63, and63, shr6 h0, shr12 h0, shr18 h0, zjd, or128 (by omega) (by omega), or128 (by omega) (by omega), or128 (by omega) (by omega), or240 (by omega) (by omega)]
    congr 1
    omega
   ·rw [enc_big (by omega)]
   ·omega
   ·omega
   ·omega
   ·rw [enc_sur (by omega) (by omega)]
  ·refine ⟨fun h1 => by omega, fun h1 => ⟨fun h2 => by omega, fun h2 => ⟨fun h3 => by omega, fun h3 => ⟨fun h4 => ⟨fun h5 => by omega, fun h5 => ⟨fun h6 => ⟨fun h7 => by omega, fun h7 => ⟨by omega, go _ ?_⟩⟩, fun h6 => by omega⟩⟩, fun h4 => by omega⟩⟩⟩⟩
   rw [enc_neg h0]
 ·have : k = l.length := by omega
  subst this
  refine hfin _ ?_
  rw [List.take_of_length_le (Nat.le_refl _), zrx])) rfl
end Go.Proofs.YtlhagkbhojmjpaaGreatDoor
namespace Go.Proofs.YtlhagkbhojmjpaaGreatDoor
open Go.Lib (encodeRuneZ)
end Go.Proofs.YtlhagkbhojmjpaaGreatDoor
namespace Go.Proofs.YtlhagkbhojmjpaaGreatDoor
open Go.RowKit Go.Joins Go.ChangeShapes Go.WideShapes Go.Deep
theorem ownT : ownKnob Tryz.prog.godebug = none := by kernel_rfl
theorem laidT : laidOutB Tryz.prog = true := by kernel_rfl
section
variable {H : Type} {enc : TypeId × Value → H} {P : Program} {w : World} {base b0 : Nat} {spare : Nat → Bool} {held : Bool} {r : Reach} {t : TypeId} {v : Value} {d : DataW H} {p : List MemPlace}
end
end Go.Proofs.YtlhagkbhojmjpaaGreatDoor
namespace Go.Proofs.YtlhagkbhojmjpaaGreatDoor
open Go.Shelf Go.RowKit
def zni : Ren := ⟨fun n => if n = 196 then 138 else if n = 259 then 169 else 0, fun n => if n = 0 then 0 else if n = 3 then 3 else if n = 4 then 4 else if n = 5 then 5 else if n = 9 then 9 else if n = 12 then 12 else if n = 46 then 142 else if n = 53 then 223 else if n = 119 then 138 else if n = 138 then 140 else if n = 139 then 141 else 0, fun n => if n = 3 then 0 else if n = 4 then 1 else 0⟩
set_option maxRecDepth 100000 in
theorem zfi : Lays.n196 Tryz.prog zni where
 mixed := by kernel_rfl
 f196 := by kernel_rfl
 f259 := by kernel_rfl
 t0 := by kernel_rfl
 a0 := fun w => by kernel_rfl
 z0 := fun w => by kernel_rfl
 v0 := fun w => by kernel_rfl
 t3 := by kernel_rfl
 a3 := fun w => by kernel_rfl
 z3 := fun w => by kernel_rfl
 v3 := fun w => by kernel_rfl
 t4 := by kernel_rfl
 a4 := fun w => by kernel_rfl
 z4 := fun w => by kernel_rfl
 v4 := fun w => by kernel_rfl
 t5 := by kernel_rfl
 a5 := fun w => by kernel_rfl
 z5 := fun w => by kernel_rfl
 v5 := fun w => by kernel_rfl
 t9 := by kernel_rfl
 a9 := fun w => by kernel_rfl
 z9 := fun w => by kernel_rfl
 v9 := fun w => by kernel_rfl
 t12 := by kernel_rfl
 a12 := fun w => by kernel_rfl
 z12 := fun w => by kernel_rfl
 v12 := fun w => by kernel_rfl
 t46 := by kernel_rfl
 a46 := fun w => by kernel_rfl
 z46 := fun w => by kernel_rfl
 v46 := fun w => by kernel_rfl
 t53 := by kernel_rfl
 a53 := fun w => by kernel_rfl
 z53 := fun w => by kernel_rfl
 v53 := fun w => by kernel_rfl
 t119 := by kernel_rfl
 a119 := fun w => by kernel_rfl
 z119 := fun w => by kernel_rfl
 t138 := by kernel_rfl
 a138 := fun w => by kernel_rfl
 z138 := fun w => by kernel_rfl
 v138 := fun w => by kernel_rfl
 t139 := by kernel_rfl
 a139 := fun w => by kernel_rfl
 z139 := fun w => by kernel_rfl
 v139 := fun w => by kernel_rfl
 g3 := by kernel_rfl
 g4 := by kernel_rfl
end Go.Proofs.YtlhagkbhojmjpaaGreatDoor
namespace Go.Proofs.YtlhagkbhojmjpaaGreatDoor
open Go.RowKit
theorem znw {w : World} {g : Nat} {ag : Bool} {cs : List CT} {T : TV} (h : RepT (full w) (.slice ag cs) T (.slice (some ⟨g, 0, none⟩) T.asList.length T.asList.length)) (i : Nat) (hi : i < T.asList.length) (c : Nat) (hc : c < cs.length) :
  ∃ u, w.cell? ⟨g, i * cs.length + c, none⟩ = some u ∧ RepT (full w) cs[c] (zbk ag (T.asList.getD i (.int 0)) c) u := by
 obtain ⟨a, cap, xs, e0, _, _, _, hr, hcl⟩ := RepT.reads (w := w) (fun _ _ h => h) h
 obtain ⟨u, h1, h2⟩ := hr.2 i hi c hc
 obtain ⟨g', off, h3, h4⟩ := hcl _ u h1
 injection e0 with e1
 rw [← e1] at h3
 injection h3 with h3
 injection h3 with h5 h6
 subst h5 h6
 rw [Nat.zero_add] at h4
 refine ⟨u, h4, ?_⟩
 rw [List.getD_eq_getElem?_getD, List.getElem?_eq_getElem hi]
 exact h2
theorem zwo {c : Nat} (hc : c < 256) : (zea).asList.getD c (.int 0) = .int (Lib.firstT c) := by
 unfold zea
 rw [zaj, zam]
 simp [Lib.firstTab, List.getD, hc]
theorem zin : (zea).asList.length = 256 := by unfold zea; rw [zal]; simp [Lib.firstTab]
theorem zqm {i : Nat} (hi : i < 16) : acceptT.asList.getD i (.int 0) = .agg [.int (Lib.accLo i), .int (Lib.accHi i)] := by
 unfold acceptT
 simp [zaa, List.getD, hi]
theorem zeo : acceptT.asList.length = 16 := by unfold acceptT; simp [TV.asList]
theorem zsu {w : World} (h : GlobOk (mkEnv globT []) gtabU w) : Lib.Utf8Tabs 0 1 w := by
 have hf := (h 0 false [.int .u8] (by simp [gtabU, gtab])).1
 have ha := (h 1 true [.int .u8, .int .u8] (by simp [gtabU, gtab])).1
 have ef : (mkEnv globT []).glob 0 = zea := rfl
 have ea : (mkEnv globT []).glob 1 = acceptT := rfl
 rw [ef] at hf
 rw [ea] at ha
 refine ⟨fun c hc => ?_, fun i hi => ?_⟩
 ·obtain ⟨u, h1, h2⟩ := znw hf c (by rw [zin]; exact hc) 0 (by simp)
  simp only [List.length_singleton, Nat.mul_one, Nat.add_zero] at h1
  rw [h1]
  rw [zwo hc] at h2
  simp only [zbk, List.getElem_cons_zero] at h2
  cases h2
  rfl
 ·obtain ⟨u0, h1, h2⟩ := znw ha i (by rw [zeo]; exact hi) 0 (by simp)
  obtain ⟨u1, h3, h4⟩ := znw ha i (by rw [zeo]; exact hi) 1 (by simp)
  rw [zqm hi] at h2 h4
  simp only [List.length_cons, List.length_nil, Nat.zero_add, Nat.reduceAdd, Nat.add_zero, Nat.mul_comm i 2] at h1 h3
  constructor
  ·rw [h1]
   simp only [List.getElem_cons_zero] at h2
   cases h2
   rfl
  ·rw [h3]
   simp only [List.getElem_cons_succ, List.getElem_cons_zero] at h4
   cases h4
   rfl
def validSL : Law := ⟨fun ts => ∃ (s : List UInt8), ts = [.str s] ∧ (s.length ≤ 9223372036854775807), fun ts z₀ => ∀ (s : List UInt8), ts = [.str s] → z₀ = .bool (Lib.validD s)⟩
theorem zxf {s : List UInt8} (h : s.length ≤ 9223372036854775807) : validSL.pre [.str s] := ⟨s, rfl, h⟩
theorem zqr {s : List UInt8} {z₀ : TV} (h : z₀ = .bool (Lib.validD s)) : validSL.post [.str s] z₀ := fun s₁ e => by
 simp only [qy] at e; subst e
 exact h
theorem zxc {s : List UInt8} {Q : TV → Prop} : (∀ z₀, validSL.post [.str s] z₀ → Q z₀) ↔ Q (.bool (Lib.validD s)) := ⟨fun h => h _ (zqr rfl), fun h z₀ hr => by rw [hr _ rfl]; exact h⟩
theorem z64 (k : Nat) : Contract Tryz.prog (mkEnv globT []) gtabU (zdi k) validSL.pre validSL.post :=
 Contract.leaf ⟨_, Tryz.f138.body.getD .skip, Tryz.func138, by kernel_rfl, by kernel_rfl⟩ fun w ts vs hg ha hp => by
  obtain ⟨s, rfl, hp⟩ := hp
  obtain ⟨v0, vs0, e0, h0, ha⟩ := zcl ha
  obtain ⟨_, e2⟩ := zgh ha
  have h0 := zrj h0
  subst h0 e2
  have ev : vs = #[.string ⟨s.toArray⟩] := by apply Array.toList_inj.1; rw [e0]
  subst ev
  refine ⟨.bool (Lib.validD s), .bool (Lib.validD s), fun M => .bool (.bool _), zqr rfl, ?_⟩
  exact Any.utf8_ValidString zfi ⟨s.toArray⟩ w (by simpa [ByteArray.size] using hp) (zsu hg)
theorem zk1 {W : World} {g : Nat} {ag : Bool} {cs : List CT} {T : TV} (hcs : 0 < cs.length) (hmax : T.asList.length ≤ maxLen)
  (h : ∀ i, i < T.asList.length → ∀ c (hc : c < cs.length), ∃ u, W.cell? ⟨g, i * cs.length + c, none⟩ = some u ∧ RepT (full W) cs[c] (zbk ag (T.asList.getD i (.int 0)) c) u) :
  RepT (full W) (.slice ag cs) T (.slice (some ⟨g, 0, none⟩) T.asList.length T.asList.length) := by
 refine Reads.full (M := full W) ⟨some ⟨g, 0, none⟩, T.asList.length, (List.range (T.asList.length * cs.length)).map fun j => (W.cell? ⟨g, j, none⟩).getD undef, rfl, Nat.le_refl _, hmax, (fun h => by cases h), ⟨by simp, fun i hi c hc => ?_⟩, fun j u hu => ⟨g, 0, rfl, ?_⟩⟩ (fun _ _ h => h) hcs
 ·obtain ⟨u, h1, h2⟩ := h i hi c hc
  refine ⟨u, ?_, ?_⟩
  ·rw [List.getElem?_map, List.getElem?_range (zyd hi hc)]
   simp [h1]
  ·rw [List.getD_eq_getElem?_getD, List.getElem?_eq_getElem hi] at h2
   exact h2
 ·rw [List.getElem?_map] at hu
  have hj : j < T.asList.length * cs.length := by
   by_cases hj : j < T.asList.length * cs.length
   ·exact hj
   ·rw [List.getElem?_eq_none (by simpa using hj)] at hu; cases hu
  rw [List.getElem?_range hj] at hu
  simp only [Option.map_some, Option.some.injEq] at hu
  obtain ⟨i, c, hi, hc, rfl⟩ := zvf hj
  obtain ⟨v, h1, _⟩ := h i hi c hc
  rw [h1] at hu
  rw [Nat.zero_add, h1, ← hu]
  rfl
theorem z0l {W : World} (h : Lib.Utf8Tabs 0 1 W) : RepT (full W) (.slice false [.int .u8]) zea (.slice (some ⟨0, 0, none⟩) (zea).asList.length (zea).asList.length) ∧ 0 < (zea).asList.length := by
 refine ⟨zk1 (by simp) (by rw [zin]; decide) fun i hi c hc => ?_, by rw [zin]; decide⟩
 rw [zin] at hi
 have : c = 0 := by simp at hc; exact hc
 subst this
 refine ⟨_, by simpa using h.1 i hi, ?_⟩
 rw [zwo hi]
 exact .int _ (.int _)
theorem zxe {W : World} (h : Lib.Utf8Tabs 0 1 W) : RepT (full W) (.slice true [.int .u8, .int .u8]) acceptT (.slice (some ⟨1, 0, none⟩) acceptT.asList.length acceptT.asList.length) ∧ 0 < acceptT.asList.length := by
 refine ⟨zk1 (by simp) (by rw [zeo]; decide) fun i hi c hc => ?_, by rw [zeo]; decide⟩
 rw [zeo] at hi
 obtain ⟨k0, k1⟩ := h.2 i hi
 rw [zqm hi]
 rw [Nat.mul_comm] at k0 k1
 match c, hc with
 | 0, _ => exact ⟨_, k0, .int _ (.int _)⟩
 | 1, _ => exact ⟨_, k1, .int _ (.int _)⟩
 | c + 2, hc => have : c + 2 < 2 := hc; omega
theorem tabs_of {l : List (String × DataW Unit)} {W : World} (h : laidMet Tryz.prog l W) (h1 : ("unicode/utf8.first", Lib.firstData) ∈ l) (h2 : ("unicode/utf8.acceptRanges", Lib.acceptData) ∈ l) : Lib.Utf8Tabs 0 1 W :=
 utf8Tabs_of_readsT (U8Types.of196 zfi) ⟨by kernel_rfl, by kernel_rfl, by kernel_rfl, by kernel_rfl, by kernel_rfl, by kernel_rfl, by kernel_rfl⟩ (Lib.laidMet.reads h h1) (Lib.laidMet.reads h h2)
end Go.Proofs.YtlhagkbhojmjpaaGreatDoor
