/- Written by this repo's own program out of its texts. -/
import Derived.Test.YtlhagkbhojmjpaaGreatDoorPFa
import Derived.Laws.Cover4
import Derived.Laws.IdiomStrings
import Derived.Laws.StructEq
import Derived.Laws.MakeOwn
import Derived.Laws.OwnMore
import Derived.Laws.CopyRow
import Derived.Laws.IdiomCopy
import Derived.Lib.AppendStr
set_option linter.unusedSimpArgs false
set_option linter.unusedVariables false
set_option linter.unusedSectionVars false
namespace Go.Proofs.YtlhagkbhojmjpaaGreatDoor
open Go.RowKit
section
variable {Γ : CEnv} {gt : GT} {ρ : List TV} {B : Nat} {G : Nat → Prop} {st : SS} {as : List Value} {vss : List (Array Value)} {w : World} {P : Program}
def bnd : Option SV → E → Option E
 | none, d => some d
 | some (.sc (.int _ e)), _ => some e
 | _, _ => none
def z0f (lo hi : Option SV) (l h n : E) : List E :=
 (match lo with | none => [] | some _ => [mk2 .lei (.int 0) l, mk2 .lei l h]) ++ (match hi with | none => [] | some _ => [mk2 .lei (.int 0) h, mk2 .lei h n])
def RepO (Γ : CEnv) (ρ : List TV) (hp : List Blk) (as : List Value) (M Mf : Mem) : Option SV → Option Value → Prop
 | none, none => True
 | some s, some v => RepV Γ ρ hp as M Mf s v
 | _, _ => False
theorem bnd_some {s : SV} {d e : E} (h : bnd (some s) d = some e) : ∃ k, s = .sc (.int k e) := by
 cases s with
 | sc s => cases s <;> simp only [bnd, Option.some.injEq, reduceCtorEq] at h; exact ⟨_, by rw [h]⟩
 | agg _ => simp [bnd] at h
 | tup _ => simp [bnd] at h
theorem zr7 {a b : E} (h : ((mk2 .lei a b).den Γ ρ).asBool = true) : (a.den Γ ρ).asInt ≤ (b.den Γ ρ).asInt := by
 rw [zcn] at h
 exact of_decide_eq_true h
theorem z2v {hp : List Blk} {as : List Value} {M Mf : Mem} {lo hi : Option SV} {vlo vhi : Option Value} {l h n : E} (isSlice : Bool) (len cap : Nat) (hl : bnd lo (.int 0) = some l) (hh : bnd hi n = some h)
  (rl : RepO Γ ρ hp as M Mf lo vlo) (rh : RepO Γ ρ hp as M Mf hi vhi) (hn : (n.den Γ ρ).asInt = len) (hc : len ≤ cap) (hq : Holds Γ ρ (z0f lo hi l h n)) :
  (∀ w : World, (Instr.sliceBounds isSlice len cap vlo vhi none).run P w = .ok ((l.den Γ ρ).asInt.toNat, (h.den Γ ρ).asInt.toNat, cap) w) ∧ 0 ≤ (l.den Γ ρ).asInt ∧ (l.den Γ ρ).asInt ≤ (h.den Γ ρ).asInt ∧ (h.den Γ ρ).asInt ≤ len := by
 have hin : ∀ e ∈ z0f lo hi l h n, (e.den Γ ρ).asBool = true := hq
 have z : ((E.int 0).den Γ ρ).asInt = 0 := rfl
 have H : ((hi = none ∧ vhi = none ∧ h = n) ∨ ∃ k, vhi = some (.int k (h.den Γ ρ).asInt) ∧ 0 ≤ (h.den Γ ρ).asInt) ∧ (h.den Γ ρ).asInt ≤ len := by
  cases hi with
  | none =>
   cases vhi with
   | some v => exact rh.elim
   | none =>
    simp only [bnd, Option.some.injEq] at hh
    subst hh
    exact ⟨.inl ⟨rfl, rfl, rfl⟩, by omega⟩
  | some s =>
   cases vhi with
   | none => exact rh.elim
   | some v =>
    obtain ⟨k, rfl⟩ := bnd_some hh
    simp only [RepO, RepV, RepC] at rh
    subst rh
    have h1 := zr7 (hin (mk2 .lei (.int 0) h) (by simp [z0f]))
    have h2 := zr7 (hin (mk2 .lei h n) (by simp [z0f]))
    rw [hn] at h2
    rw [z] at h1
    exact ⟨.inr ⟨k, rfl, h1⟩, h2⟩
 have L : ((lo = none ∧ vlo = none ∧ l = .int 0) ∨ ∃ k, vlo = some (.int k (l.den Γ ρ).asInt) ∧ (l.den Γ ρ).asInt ≤ (h.den Γ ρ).asInt) ∧ 0 ≤ (l.den Γ ρ).asInt := by
  cases lo with
  | none =>
   cases vlo with
   | some v => exact rl.elim
   | none =>
    simp only [bnd, Option.some.injEq] at hl
    subst hl
    exact ⟨.inl ⟨rfl, rfl, rfl⟩, by rw [z]; exact Int.le_refl _⟩
  | some s =>
   cases vlo with
   | none => exact rl.elim
   | some v =>
    obtain ⟨k, rfl⟩ := bnd_some hl
    simp only [RepO, RepV, RepC] at rl
    subst rl
    have h1 := zr7 (hin (mk2 .lei (.int 0) l) (by simp [z0f]))
    have h2 := zr7 (hin (mk2 .lei l h) (by simp [z0f]))
    rw [z] at h1
    exact ⟨.inr ⟨k, rfl, h2⟩, h1⟩
 obtain ⟨H1, H2⟩ := H
 obtain ⟨L1, L2⟩ := L
 rcases H1 with ⟨_, rfl, rfl⟩ | ⟨kh, rfl, H3⟩
 ·rcases L1 with ⟨_, rfl, rfl⟩ | ⟨kl, rfl, L3⟩
  ·refine ⟨fun w => ?_, L2, by rw [z, hn]; omega, H2⟩
   simp only [Instr.sliceBounds, Sem.run_bind, Sem.run_pure, Result.andThen_ok, z, hn, Int.toNat_natCast]
   rfl
  ·refine ⟨fun w => ?_, L2, L3, H2⟩
   rw [hn] at L3
   simp only [Instr.sliceBounds, Sem.run_bind, Sem.run_pure, Result.andThen_ok, run_sliceBound w kl _ len _ L2 L3, hn, Int.toNat_natCast]
 ·have e1 : (((h.den Γ ρ).asInt.toNat : Nat) : Int) = (h.den Γ ρ).asInt := Int.toNat_of_nonneg H3
  rcases L1 with ⟨_, rfl, rfl⟩ | ⟨kl, rfl, L3⟩
  ·refine ⟨fun w => ?_, L2, by rw [z]; exact H3, H2⟩
   simp only [Instr.sliceBounds, Sem.run_bind, Sem.run_pure, Result.andThen_ok, run_sliceBound w kh _ cap _ H3 (by omega), z]
   rfl
  ·refine ⟨fun w => ?_, L2, L3, H2⟩
   simp only [Instr.sliceBounds, Sem.run_bind, Sem.run_pure, Result.andThen_ok, run_sliceBound w kh _ cap _ H3 (by omega), run_sliceBound w kl _ (h.den Γ ρ).asInt.toNat _ L2 (by rw [e1]; exact L3)]
theorem RepT.sub {M : Mem} {ag : Bool} {cs : List CT} {t : TV} {a : Option Addr} {cap : Nat} (r : RepT M (.slice ag cs) t (.slice a t.asList.length cap)) (l h : Nat) (h1 : l ≤ h) (h2 : h ≤ t.asList.length) :
  RepT M (.slice ag cs) (.list ((t.asList.drop l).take (h - l))) (.slice (if cap = l then a else a.map (·.add (l * cs.length))) (h - l) (cap - l)) := by
 generalize hv : Value.slice a t.asList.length cap = v at r
 by_cases he : h - l = 0
 ·rw [he]
  refine .empty _ _ _ _ _ (by simp [zaa]) ?_ ?_
  ·intro hn
   have ha : a = none := by
    split at hn
    ·exact hn
    ·cases a <;> simp_all
   cases r with
   | empty ag cs t a' cap' q1 q2 q3 => injection hv with e1 e2 e3; subst e1 e3; have := q2 ha; omega
   | slice => injection hv with e1; rw [ha] at e1; cases e1
  ·cases r with
   | empty ag cs t a' cap' q1 q2 q3 => injection hv with e1 e2 e3; omega
   | slice => injection hv with e1 e2 e3; omega
 ·cases r with
  | empty ag cs t a' cap' q1 q2 q3 => rw [q1] at h2; simp at h2; omega
  | slice ag cs t g off cap' cur el fr vals q1 q2 q3 q4 q5 =>
   injection hv with e1 e2 e3
   subst e1 e3
   rw [if_neg (by omega)]
   simp only [Option.map_some, Addr.add_lit]
   have hlen : (TV.list ((t.asList.drop l).take (h - l))).asList.length = h - l := by rw [zaa, List.length_take, List.length_drop]; omega
   have := RepT.slice (M := M) ag cs (.list ((t.asList.drop l).take (h - l))) g (off + l * cs.length) (cap - l) cur el fr (fun i c => vals (l + i) c) q1 (by rw [hlen]; omega) (by omega)
    (fun i hi c hc => by
     rw [hlen] at hi
     have := q4 (l + i) (by omega) c hc
     rw [Nat.add_mul] at this
     rw [Nat.add_assoc off, Nat.add_assoc, Nat.add_assoc] at *
     exact this)
    (fun i hi c hc => by
     have hi' := hi
     rw [hlen] at hi'
     have := q5 (l + i) (by omega) c hc
     have e : (TV.list ((t.asList.drop l).take (h - l))).asList[i] = t.asList[l + i]'(by omega) := by simp only [zaa, List.getElem_take, List.getElem_drop]
     rw [e]; exact this)
   rw [hlen] at this
   exact this
def sSlice (P : Program) (st : SS) (t : TypeId) (x : SV) (lo hi : Option SV) : Option (List E × SC) := match x, P.underlying t with
 | .sc (.str e), some .string => match bnd lo (.int 0), bnd hi (mk1 .slen e) with
  | some l, some h => some (z0f lo hi l h (mk1 .slen e), .str (.o3 .ssub e l h))
  | _, _ => none
 | .sc (.own b ver), some (.slice el) => match st.heap[b]? with
  | some blk => match blk.cont with
   | .row c => if Nat.beq blk.ver ver && sizeB P el blk.cs.length then (match bnd lo (.int 0), bnd hi (mk1 .len c) with
    | some l, some h => some (z0f lo hi l h (mk1 .len c), .sub b ver l h)
    | _, _ => none) else none
   | _ => none
  | none => none
 | .sc (.imm fr ag cs c), some (.slice el) => if sizeB P el cs.length then (match bnd lo (.int 0), bnd hi (mk1 .len c) with
  | some l, some h => some (z0f lo hi l h (mk1 .len c), .imm fr ag cs (subE c l h))
  | _, _ => none) else none
 | .sc (.pel fr ag cs c (.int 0) 0), some (.array n el) => match lo, hi with
  | none, none => if Nat.blt 0 n && sizeB P el cs.length then some ([mk2 .eqi (mk1 .len c) (.int n)], .imm fr ag cs c) else none
  | _, _ => none
 | _, _ => none
theorem z0q {t e : TypeId} {n : Nat} (hu : P.underlying t = some (.slice e)) (hs : sizeP P e = some n) {a : Option Addr} {len cap l h m : Nat} {lo hi : Option Value}
  (hb : (Instr.sliceBounds true len cap lo hi none).run P w = .ok (l, h, m) w) : (Instr.sliceAt t (.slice a len cap) lo hi none).run P w = .ok (.slice (if m = l then a else a.map (·.add (l * n))) (h - l) (m - l)) w := by
 simp only [Instr.sliceAt, Instr.slice, Sem.run_bind, run_underlying hu, Result.andThen_ok, hb, zgn hs, Sem.run_pure]
theorem sSlice_sound (r : Rel Γ gt ρ B G st as vss w) {t : TypeId} {x : SV} {lo hi : Option SV} {y : SC} {req : List E} {v : Value} {vlo vhi : Option Value} (h : sSlice P st t x lo hi = some (req, y)) (hx : RepV Γ ρ st.heap as (zau w G) (fresh w G B) x v)
  (hlo : RepO Γ ρ st.heap as (zau w G) (fresh w G B) lo vlo) (hhi : RepO Γ ρ st.heap as (zau w G) (fresh w G B) hi vhi) (hq : Holds Γ ρ req) :
  ∃ u, (∀ w : World, (Instr.sliceAt t v vlo vhi none).run P w = .ok u w) ∧ RepC Γ ρ st.heap as (zau w G) (fresh w G B) y u := by
 unfold sSlice at h
 split at h
 ·rename_i e hu
  split at h
  ·rename_i l h' b1 b2
   simp only [Option.some.injEq, Prod.mk.injEq] at h
   obtain ⟨rfl, rfl⟩ := h
   simp only [RepV, RepC] at hx
   subst hx
   have hlen : (((mk1 .slen e).den Γ ρ)).asInt = (⟨(e.den Γ ρ).asStr.toArray⟩ : ByteArray).size := by rw [zi5, zkh]; rfl
   obtain ⟨k1, k2, k3, k4⟩ := z2v (P := P) false _ (⟨(e.den Γ ρ).asStr.toArray⟩ : ByteArray).size b1 b2 hlo hhi hlen (Nat.le_refl _) hq
   refine ⟨.string ((⟨(e.den Γ ρ).asStr.toArray⟩ : ByteArray).extract (l.den Γ ρ).asInt.toNat (h'.den Γ ρ).asInt.toNat), fun w => ?_, ?_⟩
   ·simp only [Instr.sliceAt, Instr.slice, Sem.run_bind, run_underlying hu, Result.andThen_ok, Option.isSome_none, Bool.false_eq_true, if_false, Sem.run_pure, k1]
   ·simp only [RepC]
    rw [ByteArray.extract_mk]
    rfl
  ·cases h
 ·rename_i b ver el hu
  split at h
  ·rename_i blk hb
   split at h
   ·rename_i c hc
    split at h
    ·rename_i hcond
     simp only [Bool.and_eq_true] at hcond
     split at h
     ·rename_i l h' b1 b2
      simp only [Option.some.injEq, Prod.mk.injEq] at h
      obtain ⟨rfl, rfl⟩ := h
      obtain ⟨ho, blk', va, h1, h2, h3, h4⟩ := hx
      rw [hb] at h1
      injection h1 with h1
      subst h1
      obtain ⟨rfl, _⟩ := h4 (Nat.eq_of_beq_eq_true hcond.1)
      have hread := zgc r (s := .own b ver) (row := ⟨blk.fr, blk.ag, blk.cs, c⟩) (by simp only [rowOf, hb, hcond.1, if_true, hc]) ⟨ho, blk, _, hb, h2, h3, h4⟩
      have hhead : zhq v := by
       have hbr := r.blks b blk v hb h2
       unfold BlkRel at hbr
       rw [hc] at hbr
       dsimp only at hbr
       split at hbr
       ·obtain ⟨xs, q1, q2⟩ := hbr; exact (Reads.of_own q1 q2).2
       ·exact hbr.2
      obtain ⟨a, cap, xs, e0, l1, l2, l3, _⟩ := hread
      dsimp only at e0 l1
      rw [e0]
      obtain ⟨k1, k2, k3, k4⟩ := z2v (P := P) true (c.den Γ ρ).asList.length cap b1 b2 hlo hhi zpo l1 hq
      have en : (h'.den Γ ρ).asInt.toNat - (l.den Γ ρ).asInt.toNat = ((h'.den Γ ρ).asInt - (l.den Γ ρ).asInt).toNat := by omega
      refine ⟨_, fun w => z0q hu (zo7 hcond.2) (k1 w), rfl, blk, v, hb, h2, h3, fun _ => ⟨⟨_, by simp only [Blk.len, hc], k2, k3, k4, (if cap = (l.den Γ ρ).asInt.toNat then a else a.map (·.add ((l.den Γ ρ).asInt.toNat * blk.cs.length))), cap - (l.den Γ ρ).asInt.toNat, by rw [en], by omega, by omega, ?_, ?_⟩, c, hc⟩⟩
      ·intro hn
       have ha : a = none := by
        split at hn
        ·exact hn
        ·cases a <;> simp_all
       have := l3 ha
       omega
      ·by_cases hlh : (l.den Γ ρ).asInt = (h'.den Γ ρ).asInt
       ·exact .inl hlh
       ·right
        rcases hhead with hh | ⟨g, ll, cc, hh⟩
        ·rw [hh] at e0
         injection e0 with e1 e2
         omega
        ·rw [hh] at e0
         injection e0 with e1 e2 e3
         refine ⟨g, ll, cc, hh, ?_⟩
         rw [if_neg (by omega), ← e1]
         simp only [Option.map_some, Addr.add_lit, Blk.size, hc, Nat.zero_add]
     ·cases h
    ·cases h
   ·cases h
  ·cases h
 ·rename_i fr ag cs c el hu
  split at h
  ·rename_i hcond
   split at h
   ·rename_i l h' b1 b2
    simp only [Option.some.injEq, Prod.mk.injEq] at h
    obtain ⟨rfl, rfl⟩ := h
    have hx0 : RepT (pick (zau w G) (fresh w G B) fr) (.slice ag cs) (c.den Γ ρ) v := hx
    obtain ⟨a, cap, xs, e0, l1, l2, l3, _⟩ := RepT.reads (pick_of (z0e w G) (z60 w G B) _) hx0
    rw [e0] at hx0 ⊢
    obtain ⟨k1, k2, k3, k4⟩ := z2v (P := P) true (c.den Γ ρ).asList.length cap b1 b2 hlo hhi zpo l1 hq
    refine ⟨_, fun w => z0q hu (zo7 hcond) (k1 w), ?_⟩
    exact RepT.sub hx0 _ _ (by omega) (by omega)
   ·cases h
  ·cases h
 ·rename_i fr ag cs c n el hu
  split at h
  ·split at h
   ·rename_i hn
    simp only [Option.some.injEq, Prod.mk.injEq] at h
    obtain ⟨rfl, rfl⟩ := h
    simp only [Bool.and_eq_true, Nat.blt_eq] at hn
    obtain ⟨hn, hsz⟩ := hn
    have hlo : vlo = none := by cases vlo <;> first | rfl | exact hlo.elim
    have hhi : vhi = none := by cases vhi <;> first | rfl | exact hhi.elim
    subst hlo hhi
    obtain ⟨g, off, cap, h1, h2, h3, h4⟩ := hx
    have hz : ((E.int 0).den Γ ρ).asInt = 0 := rfl
    have hl := zhn hq
    rw [zcn, zi5] at hl
    have hl : ((c.den Γ ρ).asList.length : Int) = n := by simpa [P1.den, P2.den, E.den, zac, zab] using hl
    have hl : (c.den Γ ρ).asList.length = n := by omega
    have hv : v = .pointer (some ⟨g, off, none⟩) := by rw [h4, hz]; simp
    subst hv
    refine ⟨.slice (some ⟨g, off, none⟩) n n, fun w => ?_, ?_⟩
    ·simp only [Instr.sliceAt, Instr.sureAddr, Instr.sliceBounds, Sem.run_bind, run_underlying hu, Result.andThen_ok, Sem.run_pure, zgn (zo7 hsz), if_neg (show ¬ n = 0 by omega), Addr.add_lit, Nat.zero_mul, Nat.add_zero, Nat.sub_zero]
    ·show RepT (pick (zau w G) (fresh w G B) fr) (.slice ag cs) (c.den Γ ρ) (.slice (some ⟨g, off, none⟩) n n)
     rw [← hl]
     clear hq
     generalize hv : Value.slice (some ⟨g, off, none⟩) (c.den Γ ρ).asList.length cap = vv at h1
     generalize c.den Γ ρ = tt at *
     cases h1 with
     | empty _ _ _ _ _ he => rw [he] at hl; simp at hl; omega
     | slice _ _ _ g' off' cap' cur el' fr' vals hM hcap hmax hc hr =>
      injection hv with e1 e2 e3
      injection e1 with e1
      injection e1 with e1 e4
      subst e1 e4
      exact .slice ag cs tt g off tt.asList.length cur el' fr' vals hM (Nat.le_refl _) (by omega) hc hr
   ·cases h
  ·cases h
 ·cases h
theorem RowT.ints {M : Mem} {k : IntKind} {ts : List TV} {xs : List Value} (h : RowT M false [.int k] ts xs) : xs = ts.map fun t => .int k t.asInt := by
 apply List.ext_getElem?
 intro i
 rw [List.getElem?_map]
 by_cases hi : i < ts.length
 ·obtain ⟨v, h1, h2⟩ := h.2 i hi 0 (by simp)
  simp only [List.length_singleton, Nat.mul_one, Nat.add_zero] at h1
  rw [h1, List.getElem?_eq_getElem hi]
  simp only [List.getElem_cons_zero, zbk] at h2
  cases h2
  rfl
 ·have := h.1
  simp only [List.length_singleton, Nat.mul_one] at this
  rw [List.getElem?_eq_none (by omega), List.getElem?_eq_none (by omega)]
  rfl
theorem Reads.load {M : Mem} {ag : Bool} {cs : List CT} {ts : List TV} {v : Value} (h : Reads M w ag cs ts v) : ∃ (a : Option Addr) (cap : Nat) (xs : List Value), v = .slice a ts.length cap ∧ RowT M ag cs ts xs ∧
  (a = none → ts = [] ∧ xs = []) ∧ ∀ ad, a = some ad → ∀ (j : Nat) (u : Value), xs[j]? = some u → w.cell? (ad.add j) = some u := by
 obtain ⟨a, cap, xs, e0, l1, l2, l3, hr, hc⟩ := h
 refine ⟨a, cap, xs, e0, hr, fun ha => ?_, fun ad ha j u hu => ?_⟩
 ·have : ts = [] := List.eq_nil_of_length_eq_zero (by have := l3 ha; omega)
  subst this
  exact ⟨rfl, List.eq_nil_of_length_eq_zero (by simpa using hr.1)⟩
 ·obtain ⟨g, off, h1, h2⟩ := hc j u hu
  rw [ha] at h1
  injection h1 with h1
  rw [h1, Addr.add_lit]
  exact h2
theorem zvx : ∀ (l : List Int) (r : ByteArray), l.foldl (fun r n => r.push (UInt8.ofNat n.toNat)) r = ⟨r.data ++ (l.map fun n => UInt8.ofNat n.toNat).toArray⟩
 | [], r => by simp
 | b :: l, r => by
  simp only [List.foldl_cons]
  rw [zvx l]
  simp [ByteArray.push]
theorem zvl : ∀ (l : List Int) (r : ByteArray), l.foldl (fun r n => r ++ Utf8.encode n) r = ⟨r.data ++ (l.flatMap fun n => (Utf8.encode n).data.toList).toArray⟩
 | [], r => by simp
 | b :: l, r => by
  simp only [List.foldl_cons]
  rw [zvl l]
  apply ByteArray.ext
  apply Array.ext'
  simp [ByteArray.data_append]
def CT.isInt (c : CT) (k : IntKind) : Bool := match c with
 | .int k' => keq k' k
 | _ => false
theorem CT.isInt_eq {c : CT} {k : IntKind} (h : c.isInt k = true) : c = .int k := by
 cases c with
 | int k' => rw [zyf (show keq k' k = true from h)]
 | _ => cases h
def isIntT (P : Program) (t : TypeId) (k : IntKind) : Bool := match P.underlying t with
 | some (.int k') => keq k' k
 | _ => false
theorem z0d {t : TypeId} {k : IntKind} (h : isIntT P t k = true) : P.underlying t = some (.int k) := by
 unfold isIntT at h
 split at h
 ·rename_i k' hu; rw [hu, zyf h]
 ·cases h
def intRow (hp : List Blk) (k : IntKind) (s : SC) : Option E := match s with
 | .nil => some .nil
 | s => match rowOf hp s with
  | some row => if row.ag then none else (match row.cs with
   | [c] => if c.isInt k then some row.e else none
   | _ => none)
  | none => none
theorem z7q (r : Rel Γ gt ρ B G st as vss w) {k : IntKind} {s : SC} {e : E} {v : Value} (h : intRow st.heap k s = some e) (hs : RepC Γ ρ st.heap as (zau w G) (fresh w G B) s v) :
  ∃ (a : Option Addr) (cap : Nat), v = .slice a (e.den Γ ρ).asList.length cap ∧ (a = none → (e.den Γ ρ).asList = []) ∧ ∀ ad, a = some ad → (loadCells ad (e.den Γ ρ).asList.length).run P w = .ok ((e.den Γ ρ).asList.map fun t => Value.int k t.asInt).toArray w := by
 unfold intRow at h
 split at h
 ·simp only [Option.some.injEq] at h
  subst h
  exact ⟨none, 0, hs, fun _ => rfl, fun ad h => by cases h⟩
 ·split at h
  ·rename_i row hrow
   split at h
   ·cases h
   ·rename_i hag
    split at h
    ·rename_i c hcs
     split at h
     ·rename_i hk
      simp only [Option.some.injEq] at h
      subst h
      have hread := zgc r hrow hs
      rw [hcs, CT.isInt_eq hk, show row.ag = false by simpa using hag] at hread
      obtain ⟨a, cap, xs, e0, hr, hn, hc⟩ := hread.load
      refine ⟨a, cap, e0, fun ha => (hn ha).1, fun ad ha => ?_⟩
      have hx := hr.ints
      have hl := run_loadCells_list (P := P) w ad xs (hc ad ha)
      rw [show xs.length = (row.e.den Γ ρ).asList.length by rw [hx]; simp] at hl
      rw [hl, hx]
     ·cases h
    ·cases h
  ·cases h
def sConv (P : Program) (st : SS) (src dst : TypeId) (x : SC) : Option SC := match P.underlying src, P.underlying dst with
 | some sd, some (.int k) => match x with
  | .int _ e => some (.int k (mk1 (.wrap k) e))
  | _ => none
 | some (.slice el), some .string =>
  if isIntT P el .u8 then (match intRow st.heap .u8 x with
   | some e => some (.str (mk1 .strOf e))
   | none => none)
  else if isIntT P el .i32 then (match intRow st.heap .i32 x with
   | some e => some (.str (mk1 .ofRunes e))
   | none => none)
  else none
 | some sd, some .string => match x with
  | .int _ e => some (.str (mk1 .ofRune e))
  | .str e => some (.str e)
  | _ => none
 | _, _ => none
def SC.plain : SC → Bool
 | .int .. => true
 | .str .. => true
 | _ => false
theorem sConv_sound (r : Rel Γ gt ρ B G st as vss w) {src dst : TypeId} {x y : SC} {v : Value} (h : sConv P st src dst x = some y) (hx : RepC Γ ρ st.heap as (zau w G) (fresh w G B) x v) :
  ∃ u, (convert src dst v).run P w = .ok u w ∧ (x.plain = true → ∀ w : World, (convert src dst v).run P w = .ok u w) ∧ RepC Γ ρ st.heap as (zau w G) (fresh w G B) y u := by
 unfold sConv at h
 split at h
 ·rename_i sd k hs hd
  split at h
  ·rename_i k' e
   simp only [Option.some.injEq] at h
   subst h
   simp only [RepC] at hx
   subst hx
   have key : ∀ w : World, (convert src dst (.int k' (e.den Γ ρ).asInt)).run P w = .ok (.int k ((mk1 (.wrap k) e).den Γ ρ).asInt) w := fun w => by
    simp only [convert, Sem.run_bind, run_underlying hs, run_underlying hd, Result.andThen_ok, zi5, P1.den, zac]
    rfl
   exact ⟨_, key w, fun _ => key, rfl⟩
  ·cases h
 ·rename_i el hs hd
  split at h
  ·rename_i hk
   have he := z0d hk
   split at h
   ·rename_i e hrow
    simp only [Option.some.injEq] at h
    subst h
    have hpl : x.plain = false := by
     unfold intRow at hrow
     cases x <;> first | rfl | (simp [rowOf] at hrow)
    obtain ⟨a, cap, rfl, hn, hl⟩ := z7q (P := P) r hrow hx
    refine ⟨_, ?_, (fun h => by rw [hpl] at h; cases h), rfl⟩
    rw [run_convert_bytes_string w src dst el _ _ _ hs he hd, zi5]
    cases a with
    | none =>
     rw [hn rfl]
     simp only [Conv.bytesToString, P1.den, zad, hn rfl]
     rfl
    | some ad =>
     have := hl ad rfl
     rw [show ((e.den Γ ρ).asList.map fun t => Value.int .u8 t.asInt) = ((e.den Γ ρ).asList.map TV.asInt).map (Value.int .u8) by rw [List.map_map]; rfl] at this
     rw [run_bytesToString w ad _ cap _ this, zvx]
     simp only [P1.den, zad, List.map_map]
     have e0 : ByteArray.empty.data = #[] := rfl
     rw [e0]
     simp [zfw, Function.comp_def]
   ·cases h
  ·split at h
   ·rename_i hk
    have he := z0d hk
    split at h
    ·rename_i e hrow
     simp only [Option.some.injEq] at h
     subst h
     have hpl : x.plain = false := by
      unfold intRow at hrow
      cases x <;> first | rfl | (simp [rowOf] at hrow)
     obtain ⟨a, cap, rfl, hn, hl⟩ := z7q (P := P) r hrow hx
     refine ⟨_, ?_, (fun h => by rw [hpl] at h; cases h), rfl⟩
     rw [run_convert_runes_string w src dst el _ _ _ hs he hd, zi5]
     cases a with
     | none =>
      rw [hn rfl]
      simp only [Conv.runesToString, P1.den, zad, hn rfl]
      rfl
     | some ad =>
      have := hl ad rfl
      rw [show ((e.den Γ ρ).asList.map fun t => Value.int .i32 t.asInt) = ((e.den Γ ρ).asList.map TV.asInt).map (Value.int .i32) by rw [List.map_map]; rfl] at this
      rw [run_runesToString w ad _ cap _ this, runesBytes, zvl]
      simp only [P1.den, zad]
      have e0 : ByteArray.empty.data = #[] := rfl
      rw [e0]
      simp [List.flatMap_map]
    ·cases h
   ·cases h
 ·rename_i sd hne hs hd
  split at h
  ·rename_i k' e
   simp only [Option.some.injEq] at h
   subst h
   simp only [RepC] at hx
   subst hx
   have key : ∀ w : World, (convert src dst (.int k' (e.den Γ ρ).asInt)).run P w = .ok (.string ⟨((mk1 .ofRune e).den Γ ρ).asStr.toArray⟩) w := fun w => by
    simp only [convert, Sem.run_bind, run_underlying hs, run_underlying hd, Result.andThen_ok, zi5, P1.den, zad]
    rfl
   exact ⟨_, key w, fun _ => key, rfl⟩
  ·rename_i e
   simp only [Option.some.injEq] at h
   subst h
   simp only [RepC] at hx
   subst hx
   have key : ∀ w : World, (convert src dst (.string ⟨(e.den Γ ρ).asStr.toArray⟩)).run P w = .ok (.string ⟨(e.den Γ ρ).asStr.toArray⟩) w := fun w => by
    simp only [convert, Sem.run_bind, run_underlying hs, run_underlying hd, Result.andThen_ok]
    rfl
   exact ⟨_, key w, fun _ => key, rfl⟩
  ·cases h
 ·cases h
def sIndex (P : Program) (t : TypeId) (x ix : SC) : Option (List E × SC) := match x, ix, P.underlying t with
 | .str e, .int _ i, some .string => some (rng i (.int 0) (mk1 .slen e), .int .u8 (mk2 .sidx e i))
 | _, _, _ => none
theorem z65 {e : E} : ((mk1 .slen e).den Γ ρ).asInt = (e.den Γ ρ).asStr.length := by rw [zi5]; rfl
theorem sIndex_sound {hp : List Blk} {as : List Value} {M Mf : Mem} {t : TypeId} {x ix y : SC} {req : List E} {v vi : Value} (h : sIndex P t x ix = some (req, y)) (hx : RepC Γ ρ hp as M Mf x v) (hi : RepC Γ ρ hp as M Mf ix vi) (hq : Holds Γ ρ req) :
  ∃ u, (∀ w : World, (Instr.index t v vi).run P w = .ok u w) ∧ RepC Γ ρ hp as M Mf y u := by
 unfold sIndex at h
 split at h
 ·rename_i e k i hu
  simp only [Option.some.injEq, Prod.mk.injEq] at h
  obtain ⟨rfl, rfl⟩ := h
  simp only [RepC] at hx hi
  subst hx hi
  have hr := z2n hq
  rw [z65] at hr
  simp only [E.den, zac] at hr
  have hlt : (i.den Γ ρ).asInt.toNat < (e.den Γ ρ).asStr.length := by omega
  have hget : (⟨(e.den Γ ρ).asStr.toArray⟩ : ByteArray)[(i.den Γ ρ).asInt.toNat]? = some ((e.den Γ ρ).asStr[(i.den Γ ρ).asInt.toNat]) := by
   rw [ByteArray.getElem?_lt' _ _ (by rw [zkh]; exact hlt)]
   rfl
  refine ⟨_, fun w => ?_, rfl⟩
  simp only [Instr.index, asIntOf, Sem.run_bind, Sem.run_pure, Result.andThen_ok, run_underlying hu, if_pos hr.1, hget, zcn, P2.den, zac]
  rw [List.getD_eq_getElem?_getD, List.getElem?_eq_getElem hlt]
  rfl
 ·cases h
def sLen (P : Program) (st : SS) (t : TypeId) (x : SC) : Option SC := match P.underlying t with
 | some .string => match x with
  | .str e => some (.int .i64 (mk1 .slen e))
  | _ => none
 | some (.slice _) => match x with
  | .nil => some (.int .i64 (.int 0))
  | .arr _ _ n => some (.int .i64 (.int n))
  | s => match rowOf st.heap s with
   | some row => some (.int .i64 (mk1 .len row.e))
   | none => none
 | some (.array n _) => some (.int .i64 (.int n))
 | _ => none
theorem sLen_sound (r : Rel Γ gt ρ B G st as vss w) {t ty : TypeId} {x y : SC} {v : Value} (h : sLen P st t x = some y) (hx : RepC Γ ρ st.heap as (zau w G) (fresh w G B) x v) :
  ∃ u, (∀ w : World, (Builtin.len_ #[t] ty #[v]).run P w = .ok u w) ∧ RepC Γ ρ st.heap as (zau w G) (fresh w G B) y u := by
 unfold sLen at h
 split at h
 ·rename_i hu
  split at h
  ·rename_i e
   simp only [Option.some.injEq] at h
   subst h
   simp only [RepC] at hx
   subst hx
   refine ⟨_, fun w => ?_, rfl⟩
   rw [z65]
   simp [Builtin.len_, run_underlying hu, goInt, zkh]
  ·cases h
 ·rename_i el hu
  split at h
  ·simp only [Option.some.injEq] at h
   subst h
   simp only [RepC] at hx
   subst hx
   refine ⟨_, fun w => ?_, rfl⟩
   simp [Builtin.len_, run_underlying hu, goInt, E.den, TV.asInt]
  ·simp only [Option.some.injEq] at h
   subst h
   obtain ⟨g, rfl, _⟩ := hx
   refine ⟨_, fun w => ?_, rfl⟩
   simp [Builtin.len_, run_underlying hu, goInt, E.den, TV.asInt]
  ·split at h
   ·rename_i row hrow
    simp only [Option.some.injEq] at h
    subst h
    obtain ⟨a, cap, xs, rfl, _⟩ := zgc r hrow hx
    refine ⟨_, fun w => ?_, rfl⟩
    rw [zpo]
    simp [Builtin.len_, run_underlying hu, goInt]
   ·cases h
 ·rename_i n el hu
  simp only [Option.some.injEq] at h
  subst h
  refine ⟨_, fun w => ?_, rfl⟩
  simp [Builtin.len_, run_underlying hu, goInt, E.den, TV.asInt]
 ·cases h
end
end Go.Proofs.YtlhagkbhojmjpaaGreatDoor
namespace Go.Proofs.YtlhagkbhojmjpaaGreatDoor
open Go.RowKit
section
variable {Γ : CEnv} {gt : GT} {ρ : List TV} {B : Nat} {G : Nat → Prop} {st : SS} {as : List Value} {vss : List (Array Value)} {w : World} {P : Program}
def capsOf (gt : GT) (st : SS) : List Operand → Option (List (Nat × Nat))
 | [] => some []
 | x :: r => match ev gt st x, capsOf gt st r with
  | .sc (.ptr b ver (.int 0) 0), some l => some ((b, ver) :: l)
  | _, _ => none
theorem capsOf_rep {a : Act} (r : Rel Γ gt ρ B G st as (a.tmps :: vss) w) : ∀ {xs : List Operand} {l : List (Nat × Nat)}, capsOf gt st xs = some l →
  All2 (fun (x : Nat × Nat) u => u.oneCell' = true ∧ RepPtr Γ ρ st.heap as x.1 x.2 0 0 u) l (xs.map a.eval)
 | [], l, h => by simp only [capsOf, Option.some.injEq] at h; subst h; exact All2.nil
 | x :: xs, l, h => by
  simp only [capsOf] at h
  split at h
  ·rename_i b ver l' h1 h2
   simp only [Option.some.injEq] at h
   subst h
   have hx := ztr r x
   rw [h1] at hx
   exact All2.cons hx (capsOf_rep r h2)
  ·cases h
def sPart (P : Program) (t : TypeId) (f : Nat) (cs : List SC) : Option SV := match P.underlying t with
 | some (.struct fs) => match fs[f]? with
  | some fd => match aggP P fd.type, sizeP P fd.type with
   | some true, some n => if Nat.ble (fd.offset + n) cs.length then some (.agg ((cs.drop fd.offset).take n)) else none
   | some false, _ => match cs[fd.offset]? with
    | some s => some (.sc s)
    | none => none
   | _, _ => none
  | none => none
 | _ => none
theorem sPart_sound {hp : List Blk} {as : List Value} {M Mf : Mem} {t : TypeId} {f : Nat} {cs : List SC} {out : SV} {vs : Array Value} (h : sPart P t f cs = some out) (hx : RepCs Γ ρ hp as M Mf cs vs.toList) :
  ∃ u, (∀ w : World, (Instr.field t (.agg vs) f).run P w = .ok u w) ∧ RepV Γ ρ hp as M Mf out u := by
 unfold sPart at h
 split at h
 ·rename_i fs hu
  split at h
  ·rename_i fd hf
   split at h
   ·rename_i n ha hs
    split at h
    ·rename_i hn
     simp only [Nat.ble_eq] at hn
     simp only [Option.some.injEq] at h
     subst h
     refine ⟨.agg (vs.extract fd.offset (fd.offset + n)), fun w => ?_, _, rfl, ?_⟩
     ·simp only [Instr.field, asAgg, part, Sem.run_bind, Sem.run_pure, run_underlying hu, Result.andThen_ok, hf, zv1 ha, if_true, zgn hs]
     ·have : (vs.extract fd.offset (fd.offset + n)).toList = (vs.toList.drop fd.offset).take n := by
       rw [Array.toList_extract, List.extract_eq_take_drop]
       congr 1
       omega
      rw [this]
      exact (hx.drop _).take _
    ·cases h
   ·rename_i x ha
    split at h
    ·rename_i s hc
     simp only [Option.some.injEq] at h
     subst h
     obtain ⟨u, k1, k2⟩ := hx.get hc
     have k1' : vs[fd.offset]? = some u := by simpa using k1
     refine ⟨u, fun w => ?_, k2⟩
     simp only [Instr.field, asAgg, part, Sem.run_bind, Sem.run_pure, run_underlying hu, Result.andThen_ok, hf, zv1 ha, Bool.false_eq_true, if_false, k1']
    ·cases h
   ·cases h
  ·cases h
 ·cases h
def opt (gt : GT) (st : SS) : Option Operand → Option SV
 | none => none
 | some x => some (ev gt st x)
theorem opt_rep {a : Act} (r : Rel Γ gt ρ B G st as (a.tmps :: vss) w) (x : Option Operand) : RepO Γ ρ st.heap as (zau w G) (fresh w G B) (opt gt st x) (x.map a.eval) := by
 cases x with
 | none => trivial
 | some x => exact ztr r x
def sMin (mx : Bool) (x y : SV) : Option SV := match x, y with
 | .sc (.int k a), .sc (.int _ b) => some (.sc (.int k (mk2 (if mx then .max else .min) a b)))
 | _, _ => none
theorem qab (ts : Array TypeId) (t : TypeId) (k k' : IntKind) (x y : Int) : (Builtin.min_ ts t #[.int k x, .int k' y]).run P w = .ok (.int k (min x y)) w := by
 simp only [Builtin.min_, List.foldlM_cons, List.foldlM_nil, Builtin.min2, Sem.run_bind, Sem.run_pure, Result.andThen_ok]
 congr 2
 split <;> omega
theorem z8h (ts : Array TypeId) (t : TypeId) (k k' : IntKind) (x y : Int) : (Builtin.max_ ts t #[.int k x, .int k' y]).run P w = .ok (.int k (max x y)) w := by
 simp only [Builtin.max_, List.foldlM_cons, List.foldlM_nil, Builtin.max2, Sem.run_bind, Sem.run_pure, Result.andThen_ok]
 congr 2
 split <;> omega
def eqField (P : Program) (cs ds : List SC) (f : Field) : Option E := if f.name = "_" then none else match aggP P f.type, cs[f.offset]?, ds[f.offset]? with
 | some false, some a, some b => match P.underlying f.type, a, b with
  | some (.int _), .int k e, .int k' e' => if keq k k' then some (mk2 .eqi e e') else none
  | some .bool, .bool e, .bool e' => some (mk2 .eqb e e')
  | some .string, .str e, .str e' => some (mk2 .eqs e e')
  | _, _, _ => none
 | _, _, _ => none
def zvi (P : Program) (cs ds : List SC) : List Field → Option E
 | [] => some (.bool true)
 | f :: fs => match eqField P cs ds f, zvi P cs ds fs with
  | some e, some r => some (.o3 .ite e r (.bool false))
  | _, _ => none
def eqFieldN (P : Program) (cs ds : List SC) (f : Field) : Option E := match eqField P cs ds f with
 | some e => some e
 | none => if f.name = "_" then none else match aggP P f.type, sizeP P f.type, P.underlying f.type with
  | some true, some n, some (.struct fs) => if !P.stoodInHeld f.type then zvi P ((cs.drop f.offset).take n) ((ds.drop f.offset).take n) fs.toList else none
  | _, _, _ => none
def qoz (P : Program) (cs ds : List SC) : List Field → Option E
 | [] => some (.bool true)
 | f :: fs => match eqFieldN P cs ds f, qoz P cs ds fs with
  | some e, some r => some (.o3 .ite e r (.bool false))
  | _, _ => none
def sBinAgg (P : Program) (op : BinOp) (t : TypeId) (cs ds : List SC) : Option (List E × SC) := match P.underlying t with
 | some (.struct fs) => if !P.stoodInHeld t && !P.eqGuardType P.depth t then (match qoz P cs ds fs.toList with
  | some e => match op with
   | .eql => some ([], .bool e)
   | .neq => some ([], .bool (mkNo e))
   | _ => none
  | none => none) else none
 | _ => none
theorem z5a {t : TypeId} {xs : Array Value} {off : Nat} {v : Value} (ha : aggP P t = some false) (hv : xs[off]? = some v) (w : World) : (part t xs off).run P w = .ok v w := by
 simp only [part, Sem.run_bind, zv1 ha, Result.andThen_ok, Bool.false_eq_true, if_false, hv, Sem.run_pure]
theorem eqField_sound {hp : List Blk} {as : List Value} {M Mf : Mem} {cs ds : List SC} {xs ys : Array Value} {f : Field} {e : E} (h : eqField P cs ds f = some e) (hx : RepCs Γ ρ hp as M Mf cs xs.toList) (hy : RepCs Γ ρ hp as M Mf ds ys.toList) (d : Nat) :
  f.name ≠ "_" ∧ ∃ u v, (∀ w : World, (part f.type xs f.offset).run P w = .ok u w) ∧ (∀ w : World, (part f.type ys f.offset).run P w = .ok v w) ∧ ∀ w : World, (Op.equalIn (d + 1) f.type u v).run P w = .ok (e.den Γ ρ).asBool w := by
 unfold eqField at h
 split at h
 ·cases h
 ·rename_i hn
  refine ⟨hn, ?_⟩
  split at h
  ·rename_i a b ha hca hcb
   obtain ⟨u, hu, ru⟩ := hx.get hca
   obtain ⟨v, hv, rv⟩ := hy.get hcb
   have hu : xs[f.offset]? = some u := by rw [← Array.getElem?_toList]; exact hu
   have hv : ys[f.offset]? = some v := by rw [← Array.getElem?_toList]; exact hv
   refine ⟨u, v, z5a ha hu, z5a ha hv, fun w => ?_⟩
   split at h
   ·rename_i kk k x k' y hty
    split at h
    ·rename_i hk
     simp only [Option.some.injEq] at h
     subst h
     rw [show u = .int k (x.den Γ ρ).asInt from ru, show v = .int k' (y.den Γ ρ).asInt from rv, zyf hk, run_equalIn_int w d _ _ _ _ _ hty, zcn]
     rfl
    ·cases h
   ·rename_i x y hty
    simp only [Option.some.injEq] at h
    subst h
    rw [show u = .bool (x.den Γ ρ).asBool from ru, show v = .bool (y.den Γ ρ).asBool from rv, ztq d hty, zcn]
    rfl
   ·rename_i x y hty
    simp only [Option.some.injEq] at h
    subst h
    rw [show u = .string ⟨(x.den Γ ρ).asStr.toArray⟩ from ru, show v = .string ⟨(y.den Γ ρ).asStr.toArray⟩ from rv, run_equalIn_string w d _ _ _ hty, zcn, zvp, zvp]
    rfl
   ·cases h
  ·cases h
theorem zyb {hp : List Blk} {as : List Value} {M Mf : Mem} {cs ds : List SC} {xs ys : Array Value} (hx : RepCs Γ ρ hp as M Mf cs xs.toList) (hy : RepCs Γ ρ hp as M Mf ds ys.toList) (d : Nat) (w : World) : ∀ {fs : List Field} {e : E}, zvi P cs ds fs = some e →
  (Op.eqFields (d + 1) xs ys fs).run P w = .ok (e.den Γ ρ).asBool w
 | [], e, h => by
  simp only [zvi, Option.some.injEq] at h
  subst h
  rfl
 | f :: fs, e, h => by
  simp only [zvi] at h
  split at h
  ·rename_i e1 r h1 h2
   simp only [Option.some.injEq] at h
   subst h
   obtain ⟨hn, u, v, k1, k2, k3⟩ := eqField_sound h1 hx hy d
   have ih := zyb hx hy d w h2
   simp only [Op.eqFields, if_pos hn, Sem.run_bind, k1 w, k2 w, k3 w, Result.andThen_ok, Sem.run_ite, Sem.run_pure, ih, E.den, P3.den]
   cases (e1.den Γ ρ).asBool <;> simp [TV.asBool]
  ·cases h
theorem eqFieldN_sound {hp : List Blk} {as : List Value} {M Mf : Mem} {cs ds : List SC} {xs ys : Array Value} {f : Field} {e : E} (h : eqFieldN P cs ds f = some e) (hx : RepCs Γ ρ hp as M Mf cs xs.toList) (hy : RepCs Γ ρ hp as M Mf ds ys.toList) (d : Nat) :
  f.name ≠ "_" ∧ ∃ u v, (∀ w : World, (part f.type xs f.offset).run P w = .ok u w) ∧ (∀ w : World, (part f.type ys f.offset).run P w = .ok v w) ∧ ∀ w : World, (Op.equalIn (d + 2) f.type u v).run P w = .ok (e.den Γ ρ).asBool w := by
 unfold eqFieldN at h
 split at h
 ·rename_i e' he
  simp only [Option.some.injEq] at h
  subst h
  exact eqField_sound he hx hy (d + 1)
 ·split at h
  ·cases h
  ·rename_i hn
   refine ⟨hn, ?_⟩
   split at h
   ·rename_i n fs ha hs hu
    split at h
    ·rename_i hc
     simp only [Bool.not_eq_true'] at hc
     have hfo : P.fieldsOf f.type = fs := by unfold Program.fieldsOf; rw [hu]
     have pt : ∀ (zs : Array Value) (w : World), (part f.type zs f.offset).run P w = .ok (.agg (zs.extract f.offset (f.offset + n))) w := fun zs w => by
      simp only [part, Sem.run_bind, Sem.run_pure, zv1 ha, Result.andThen_ok, if_true, zgn hs]
     have ex : ∀ zs : Array Value, (zs.extract f.offset (f.offset + n)).toList = (zs.toList.drop f.offset).take n := fun zs => by
      rw [Array.toList_extract, List.extract_eq_take_drop]
      congr 1
      omega
     refine ⟨_, _, pt xs, pt ys, fun w => ?_⟩
     rw [run_equalIn_struct w (d + 1) f.type _ _ (by rw [hfo]; exact hu) hc, hfo]
     exact zyb (cs := (cs.drop f.offset).take n) (ds := (ds.drop f.offset).take n) (by rw [ex]; exact (hx.drop _).take _) (by rw [ex]; exact (hy.drop _).take _) d w h
    ·cases h
   ·cases h
theorem qo0 {hp : List Blk} {as : List Value} {M Mf : Mem} {cs ds : List SC} {xs ys : Array Value} (hx : RepCs Γ ρ hp as M Mf cs xs.toList) (hy : RepCs Γ ρ hp as M Mf ds ys.toList) (d : Nat) (w : World) : ∀ {fs : List Field} {e : E}, qoz P cs ds fs = some e →
  (Op.eqFields (d + 2) xs ys fs).run P w = .ok (e.den Γ ρ).asBool w
 | [], e, h => by
  simp only [qoz, Option.some.injEq] at h
  subst h
  rfl
 | f :: fs, e, h => by
  simp only [qoz] at h
  split at h
  ·rename_i e1 r h1 h2
   simp only [Option.some.injEq] at h
   subst h
   obtain ⟨hn, u, v, k1, k2, k3⟩ := eqFieldN_sound h1 hx hy d
   have ih := qo0 hx hy d w h2
   simp only [Op.eqFields, if_pos hn, Sem.run_bind, k1 w, k2 w, k3 w, Result.andThen_ok, Sem.run_ite, Sem.run_pure, ih, E.den, P3.den]
   cases (e1.den Γ ρ).asBool <;> simp [TV.asBool]
  ·cases h
theorem sBinAgg_sound {hp : List Blk} {as : List Value} {M Mf : Mem} {op : BinOp} {t : TypeId} {cs ds : List SC} {xo yo : Operand} {req : List E} {s : SC} {u v : Value} (h : sBinAgg P op t cs ds = some (req, s)) (hx : RepV Γ ρ hp as M Mf (.agg cs) u) (hy : RepV Γ ρ hp as M Mf (.agg ds) v) :
  ∃ z, (∀ w : World, (do eqGuard op t xo yo u v; binOp op t u v : Sem Value).run P w = .ok z w) ∧ RepC Γ ρ hp as M Mf s z := by
 unfold sBinAgg at h
 split at h
 ·rename_i fs hu
  split at h
  ·rename_i hc
   simp only [Bool.and_eq_true, Bool.not_eq_true'] at hc
   split at h
   ·rename_i e he
    obtain ⟨xs, rfl, hx⟩ := hx
    obtain ⟨ys, rfl, hy⟩ := hy
    have hfo : P.fieldsOf t = fs := by unfold Program.fieldsOf; rw [hu]
    have hrun : ∀ w : World, (Op.equalIn 10000 t (.agg xs) (.agg ys)).run P w = .ok (e.den Γ ρ).asBool w := fun w => by
     rw [run_equalIn_struct w 9999 t xs ys (by rw [hfo]; exact hu) hc.1, hfo]
     exact qo0 hx hy 9997 w he
    split at h
    ·simp only [Option.some.injEq, Prod.mk.injEq] at h
     obtain ⟨rfl, rfl⟩ := h
     exact ⟨_, fun w => by rw [Sem.run_bind, run_eqGuard_agg w _ _ _ _ _ _ hc.2, Result.andThen_ok, run_eql_struct, hrun w, Result.andThen_ok], rfl⟩
    ·simp only [Option.some.injEq, Prod.mk.injEq] at h
     obtain ⟨rfl, rfl⟩ := h
     exact ⟨_, fun w => by rw [Sem.run_bind, run_eqGuard_agg w _ _ _ _ _ _ hc.2, Result.andThen_ok, run_neq_struct, hrun w, Result.andThen_ok], by show _ = _; rw [zw7]; rfl⟩
    ·cases h
   ·cases h
  ·cases h
 ·cases h
def pairO : Option (List E × SC) → Option (List E × SV)
 | some (r, s) => some (r, .sc s)
 | none => none
def scO : Option SC → Option (List E × SV)
 | some s => some ([], .sc s)
 | none => none
def svO : Option SV → Option (List E × SV)
 | some s => some ([], s)
 | none => none
def isPtr : SC → Bool
 | .ptr .. | .pel .. => true
 | _ => false
def isMapT (P : Program) (t : TypeId) (b : Bool) : Bool := match P.underlying t with
 | some (.map kt et) => (match P.underlying kt with | some .string => true | _ => false) && (match (P.info? et).bind (·.zero), b with
  | some (.bool false), true => true
  | some (.int .i64 0), false => true
  | _, _ => false)
 | _ => false
def sLook (b ok : Bool) (e s : E) : SV :=
 let c := if b then SC.bool (mk2 (.mget true) e s) else SC.int .i64 (mk2 (.mget false) e s)
 if ok then .tup [(false, [c]), (false, [.bool (mk2 .mhas e s)])] else .sc c
theorem sLook_sound {hp : List Blk} {t : TypeId} {fr b ok : Bool} {e s : E} {m k : Value} (hm : isMapT P t b = true) (h1 : RepC Γ ρ hp as (zau w G) (fresh w G B) (.mp fr b e) m) (h2 : RepC Γ ρ hp as (zau w G) (fresh w G B) (.str s) k) :
  ∃ z, (∀ w2 : World, Below w.heap.size w w2 → (Instr.lookup t m k ok).run P w2 = .ok z w2) ∧ RepV Γ ρ hp as (zau w G) (fresh w G B) (sLook b ok e s) z := by
 have h1 : RepT (pick (zau w G) (fresh w G B) fr) (.map b) (e.den Γ ρ) m := h1
 have h2 : k = .string ⟨(s.den Γ ρ).asStr.toArray⟩ := h2
 subst h2
 cases h1 with
 | map _ _ g clk es hM hf =>
  have hg : w.heap[g]? = some (.map es clk) := by cases fr <;> exact hM.1
  obtain ⟨i, hi⟩ := hf (s.den Γ ρ).asStr
  unfold isMapT at hm
  split at hm
  ·rename_i kt et hu
   simp only [Bool.and_eq_true] at hm
   have hk : P.underlying kt = some .string := by
    revert hm
    split
    ·intro _; assumption
    ·intro hm; cases hm.1
   have hz : ∀ w : World, (zeroValue et).run P w = .ok (mcv b (.int 0)) w := by
    intro w
    have h := hm.2
    cases hin : P.info? et with
    | none => rw [hin] at h; simp at h
    | some it =>
     rw [hin] at h
     simp only [Option.bind_some] at h
     cases hz0 : it.zero with
     | none => rw [hz0] at h; simp at h
     | some zv =>
      rw [hz0] at h
      have : zv = mcv b (.int 0) := by
       split at h
       ·rename_i e1; injection e1
       ·rename_i e1; injection e1
       ·cases h
      simp [zeroValue, typeInfo, hin, hz0, this]
   refine ⟨if ok then .tuple #[mcv b ((mval (e.den Γ ρ).asList (s.den Γ ρ).asStr).getD (.int 0)), .bool (mval (e.den Γ ρ).asList (s.den Γ ρ).asStr).isSome] else mcv b ((mval (e.den Γ ρ).asList (s.den Γ ρ).asStr).getD (.int 0)), fun w2 hw => ?_, ?_⟩
   ·have hg2 : w2.heap[g]? = some (.map es clk) := by
     have hlt : g < w.heap.size := (Array.getElem?_eq_some_iff.1 hg).1
     rw [hw.block g hlt]; exact hg
    have hc : ∀ b', (Instr.checkKey b' 10000 kt (.string ⟨(s.den Γ ρ).asStr.toArray⟩)).run P w2 = .ok () w2 := fun b' => MapKept.run_checkKey (k := .string ⟨(s.den Γ ρ).asStr.toArray⟩) hk (by simp [MapKept.IsKey]) b' 9999
    cases hv : mval (e.den Γ ρ).asList (s.den Γ ρ).asStr with
    | none =>
     rw [hv] at hi
     have hf2 := MapKept.run_findKey (P := P) (w := w2) hk hi
     simp [Instr.lookup, run_underlying hu, MapKept.run_getObj_map hg2, hc, hf2, hz, Result.andThen]
    | some x =>
     rw [hv] at hi
     have hf2 := MapKept.run_findKey (P := P) (w := w2) hk hi
     simp [Instr.lookup, run_underlying hu, MapKept.run_getObj_map hg2, hc, hf2, hz, Result.andThen]
   ·have hcell : RepC Γ ρ hp as (zau w G) (fresh w G B) (if b then SC.bool (mk2 (.mget true) e s) else SC.int .i64 (mk2 (.mget false) e s)) (mcv b ((mval (e.den Γ ρ).asList (s.den Γ ρ).asStr).getD (.int 0))) := by
     cases b
     ·simp [RepC, zcn, P2.den, mtv, mcv, zac]
     ·simp [RepC, zcn, P2.den, mtv, mcv, zab]
    unfold sLook
    cases ok
    ·exact hcell
    ·refine ⟨_, rfl, All2.cons ⟨_, rfl, hcell⟩ (All2.cons ⟨_, rfl, ?_⟩ All2.nil)⟩
     simp [RepC, zcn, P2.den, zab]
  ·cases hm
def sopR (P : Program) (gt : GT) (st : SS) (o : Op) : Option (List E × SV) := match o with
 | .move x => some ([], ev gt st x)
 | .assign x => some ([], ev gt st x)
 | .pick c a b => match ev gt st c with
  | .sc (.bool (.bool t)) => some ([], if t then ev gt st a else ev gt st b)
  | _ => none
 | .build t parts => match z39 gt st parts.toList with
  | some l => match sBuilt P t l with
   | some cs => some ([], .agg cs)
   | none => none
  | none => none
 | .load t x => match ev gt st x with
  | .sc s => svO (sLoad P st t s)
  | _ => none
 | .nilCheck x => match ev gt st x with
  | .sc s => if isPtr s && s.cur st.heap then some ([], .sc s) else none
  | _ => none
 | .binOp op t x y _ => match ev gt st x, ev gt st y with
  | .sc a, .sc b => pairO (sBin P op t a b)
  | .agg cs, .agg ds => pairO (sBinAgg P op t cs ds)
  | _, _ => none
 | .unOp op _ x => match ev gt st x with
  | .sc a => scO (sUn op a)
  | _ => none
 | .convert src dst x => match ev gt st x with
  | .sc a => scO (sConv P st src dst a)
  | _ => none
 | .slice t x lo hi none => pairO (sSlice P st t (ev gt st x) (opt gt st lo) (opt gt st hi))
 | .fieldAddr t x f => match ev gt st x with
  | .sc a => if a.cur st.heap then scO (sField P t f a) else none
  | _ => none
 | .field t x f => match ev gt st x with
  | .agg cs => svO (sPart P t f cs)
  | _ => none
 | .indexAddr t x ix => match ev gt st x, ev gt st ix with
  | .sc a, .sc b => pairO (z2u P st t a b)
  | _, _ => none
 | .index t x ix => match ev gt st x, ev gt st ix with
  | .sc a, .sc b => pairO (sIndex P t a b)
  | _, _ => none
 | .extract x i => match ev gt st x with
  | .tup ps => match ps[i]? with
   | some (true, cs) => some ([], .agg cs)
   | some (false, [s]) => some ([], .sc s)
   | _ => none
  | _ => none
 | .makeFunc (.func f) ⟨[]⟩ caps => match capsOf gt st caps.toList with
  | some l => some ([], .sc (.fn f l))
  | none => none
 | .call ⟨.builtin .len, ⟨[x]⟩, ⟨[t]⟩⟩ => match ev gt st x with
  | .sc a => scO (sLen P st t a)
  | _ => none
 | .call ⟨.builtin .min, ⟨[x, y]⟩, _⟩ => svO (sMin false (ev gt st x) (ev gt st y))
 | .call ⟨.builtin .max, ⟨[x, y]⟩, _⟩ => svO (sMin true (ev gt st x) (ev gt st y))
 | .lookup t m k ok => match ev gt st m, ev gt st k with
  | .sc (.mp fr b e), .sc (.str s) => if isMapT P t b then some ([], sLook b ok e s) else none
  | _, _ => none
 | .makeFunc (.func f) ⟨[x]⟩ ⟨[]⟩ => match ev gt st x with
  | .sc (.ptr b ver (.int 0) 0) => some ([], .sc (.mth f b ver))
  | _ => none
 | _ => none
def isV (gt : GT) (st : SS) (o : Op) : Bool := match o with
 | .convert _ _ x => match ev gt st x with
  | .sc s => s.plain
  | _ => false
 | _ => true
theorem run_v {sem : Sem Value} {v : Value} {w' : World} (h : sem.run P w = .ok v w') : (do pure (Next.value (← sem)) : Sem Next).run P w = .ok (.value v) w' := by
 simp only [Sem.run_bind, h, Result.andThen_ok, Sem.run_pure]
def isP : Op → Bool
 | .move _ | .assign _ | .fieldAddr .. | .binOp .. | .unOp .. | .extract .. | .nilCheck _ | .build .. | .slice .. | .indexAddr .. | .index .. | .field .. => true
 | _ => false
theorem zq4 {a : Act} {o : Oper} (r : Rel Γ gt ρ B G st as (a.tmps :: vss) w) {req : List E} {val : SV} (h : sopR P gt st o.op = some (req, val)) (hq : Holds Γ ρ req) :
  ∃ v, (execOp a.eval o).run P w = .ok (.value v) w ∧ (isV gt st o.op = true → ∀ w2 : World, (Below w.heap.size w w2 ∨ isP o.op = true) → (execOp a.eval o).run P w2 = .ok (.value v) w2) ∧ RepV Γ ρ st.heap as (zau w G) (fresh w G B) val v := by
 have hev := fun x => ztr r x
 unfold sopR at h
 unfold execOp
 split at h
 ·rename_i x ho
  simp only [Option.some.injEq, Prod.mk.injEq] at h
  obtain ⟨rfl, rfl⟩ := h
  rw [ho]
  exact ⟨_, rfl, fun _ _ _ => rfl, hev x⟩
 ·rename_i x ho
  simp only [Option.some.injEq, Prod.mk.injEq] at h
  obtain ⟨rfl, rfl⟩ := h
  rw [ho]
  exact ⟨_, rfl, fun _ _ _ => rfl, hev x⟩
 ·rename_i c x y ho
  rw [ho]
  split at h
  ·rename_i t hc
   simp only [Option.some.injEq, Prod.mk.injEq] at h
   obtain ⟨rfl, rfl⟩ := h
   have h1 := hev c
   rw [hc] at h1
   have h1 : a.eval c = .bool t := h1
   dsimp only
   rw [h1]
   cases t
   ·exact ⟨_, rfl, fun _ _ _ => rfl, hev y⟩
   ·exact ⟨_, rfl, fun _ _ _ => rfl, hev x⟩
  ·cases h
 ·rename_i t parts ho
  rw [ho]
  split at h
  ·rename_i l hl
   split at h
   ·rename_i cs hc
    simp only [Option.some.injEq, Prod.mk.injEq] at h
    obtain ⟨rfl, rfl⟩ := h
    have hp := zzt r hl
    obtain ⟨cells, k1, k2⟩ := sBuilt_sound (P := P) (vals := parts.map fun (i, x) => (i, a.eval x)) hc (by rw [Array.toList_map]; exact hp)
    exact ⟨_, run_v (k1 w), fun _ w2 _ => run_v (k1 w2), cells, rfl, k2⟩
   ·cases h
  ·cases h
 ·rename_i t x ho
  rw [ho]
  split at h
  ·rename_i s hs
   unfold svO at h
   split at h
   ·rename_i s' hl
    simp only [Option.some.injEq, Prod.mk.injEq] at h
    obtain ⟨rfl, rfl⟩ := h
    have h1 := hev x
    rw [hs] at h1
    obtain ⟨u, k1, k2⟩ := z94 r hl h1
    exact ⟨u, run_v (k1 w (Below.refl _ _)), fun _ w2 hb => run_v (k1 w2 (hb.resolve_right (fun h => by cases h))), k2⟩
   ·cases h
  ·cases h
 ·rename_i x ho
  rw [ho]
  split at h
  ·rename_i s hs
   split at h
   ·rename_i hcond
    simp only [Bool.and_eq_true] at hcond
    simp only [Option.some.injEq, Prod.mk.injEq] at h
    obtain ⟨rfl, rfl⟩ := h
    have h1 := hev x
    rw [hs] at h1
    have hp : ∃ ad, a.eval x = .pointer (some ad) := by
     cases s <;> first | (simp [isPtr] at hcond; done) | skip
     ·obtain ⟨_, blk, va, g1, g2, g3, g4⟩ := h1
      have hcur := hcond.2
      simp only [SC.cur, g1] at hcur
      obtain ⟨n, g, _, _, _, _, e⟩ := g4 (Nat.eq_of_beq_eq_true hcur)
      exact ⟨_, e⟩
     ·obtain ⟨g, off, cap, _, _, _, e⟩ := h1
      exact ⟨_, e⟩
    obtain ⟨ad, had⟩ := hp
    refine ⟨a.eval x, ?_, fun _ w2 _ => ?_, h1⟩
    ·dsimp only
     rw [had]
     rfl
    ·dsimp only
     rw [had]
     rfl
   ·cases h
  ·cases h
 ·rename_i op t x y yt ho
  rw [ho]
  split at h
  ·rename_i s1 s2 e1 e2
   unfold pairO at h
   split at h
   ·rename_i rq s hb
    simp only [Option.some.injEq, Prod.mk.injEq] at h
    obtain ⟨rfl, rfl⟩ := h
    have h1 := hev x
    have h2 := hev y
    rw [e1] at h1
    rw [e2] at h2
    obtain ⟨z, k1, k2⟩ := sBin_sound (P := P) (xo := x) (yo := y) hb h1 h2 hq
    exact ⟨z, run_v (k1 w), fun _ w2 _ => run_v (k1 w2), k2⟩
   ·cases h
  ·rename_i s1 s2 e1 e2
   unfold pairO at h
   split at h
   ·rename_i rq s hb
    simp only [Option.some.injEq, Prod.mk.injEq] at h
    obtain ⟨rfl, rfl⟩ := h
    have h1 := hev x
    have h2 := hev y
    rw [e1] at h1
    rw [e2] at h2
    obtain ⟨z, k1, k2⟩ := sBinAgg_sound (P := P) (xo := x) (yo := y) hb h1 h2
    exact ⟨z, run_v (k1 w), fun _ w2 _ => run_v (k1 w2), k2⟩
   ·cases h
  ·cases h
 ·rename_i op t x ho
  rw [ho]
  split at h
  ·rename_i s1 e1
   unfold scO at h
   split at h
   ·rename_i s hb
    simp only [Option.some.injEq, Prod.mk.injEq] at h
    obtain ⟨rfl, rfl⟩ := h
    have h1 := hev x
    rw [e1] at h1
    obtain ⟨z, k1, k2⟩ := sUn_sound (P := P) hb h1
    exact ⟨z, run_v (k1 w), fun _ w2 _ => run_v (k1 w2), k2⟩
   ·cases h
  ·cases h
 ·rename_i src dst x ho
  rw [ho]
  split at h
  ·rename_i s1 e1
   unfold scO at h
   split at h
   ·rename_i s hb
    simp only [Option.some.injEq, Prod.mk.injEq] at h
    obtain ⟨rfl, rfl⟩ := h
    have h1 := hev x
    rw [e1] at h1
    obtain ⟨z, k1, k3, k2⟩ := sConv_sound (P := P) r hb h1
    exact ⟨z, run_v k1, fun hV w2 _ => run_v (k3 (by simp only [isV, e1] at hV; exact hV) w2), k2⟩
   ·cases h
  ·cases h
 ·rename_i t x lo hi ho
  rw [ho]
  unfold pairO at h
  split at h
  ·rename_i rq s hb
   simp only [Option.some.injEq, Prod.mk.injEq] at h
   obtain ⟨rfl, rfl⟩ := h
   obtain ⟨z, k1, k2⟩ := sSlice_sound (P := P) r hb (hev x) (opt_rep r lo) (opt_rep r hi) hq
   exact ⟨z, run_v (k1 w), fun _ w2 _ => run_v (k1 w2), k2⟩
  ·cases h
 ·rename_i t x f ho
  rw [ho]
  split at h
  ·rename_i s1 e1
   split at h
   ·rename_i hcur
    unfold scO at h
    split at h
    ·rename_i s hb
     simp only [Option.some.injEq, Prod.mk.injEq] at h
     obtain ⟨rfl, rfl⟩ := h
     have h1 := hev x
     rw [e1] at h1
     obtain ⟨z, k1, k2⟩ := sField_sound (P := P) hb hcur h1
     exact ⟨z, run_v (k1 w), fun _ w2 _ => run_v (k1 w2), k2⟩
    ·cases h
   ·cases h
  ·cases h
 ·rename_i t x f ho
  rw [ho]
  split at h
  ·rename_i cs e1
   unfold svO at h
   split at h
   ·rename_i s hb
    simp only [Option.some.injEq, Prod.mk.injEq] at h
    obtain ⟨rfl, rfl⟩ := h
    have h1 := hev x
    rw [e1] at h1
    obtain ⟨vs, e2, h2⟩ := h1
    obtain ⟨z, k1, k2⟩ := sPart_sound (P := P) hb h2
    rw [← e2] at k1
    exact ⟨z, run_v (k1 w), fun _ w2 _ => run_v (k1 w2), k2⟩
   ·cases h
  ·cases h
 ·rename_i t x ix ho
  rw [ho]
  split at h
  ·rename_i s1 s2 e1 e2
   unfold pairO at h
   split at h
   ·rename_i rq s hb
    simp only [Option.some.injEq, Prod.mk.injEq] at h
    obtain ⟨rfl, rfl⟩ := h
    have h1 := hev x
    have h2 := hev ix
    rw [e1] at h1
    rw [e2] at h2
    obtain ⟨z, k1, k2⟩ := z6s (P := P) r hb h1 h2 hq
    exact ⟨z, run_v (k1 w), fun _ w2 _ => run_v (k1 w2), k2⟩
   ·cases h
  ·cases h
 ·rename_i t x ix ho
  rw [ho]
  split at h
  ·rename_i s1 s2 e1 e2
   unfold pairO at h
   split at h
   ·rename_i rq s hb
    simp only [Option.some.injEq, Prod.mk.injEq] at h
    obtain ⟨rfl, rfl⟩ := h
    have h1 := hev x
    have h2 := hev ix
    rw [e1] at h1
    rw [e2] at h2
    obtain ⟨z, k1, k2⟩ := sIndex_sound (P := P) hb h1 h2 hq
    exact ⟨z, run_v (k1 w), fun _ w2 _ => run_v (k1 w2), k2⟩
   ·cases h
  ·cases h
 ·rename_i x i ho
  rw [ho]
  split at h
  ·rename_i ps e1
   have h1 := hev x
   rw [e1] at h1
   obtain ⟨vs, e2, h2⟩ := h1
   split at h
   ·rename_i cs hi
    simp only [Option.some.injEq, Prod.mk.injEq] at h
    obtain ⟨rfl, rfl⟩ := h
    obtain ⟨u, k1, k2⟩ := h2.get hi
    have k1' : vs[i]? = some u := by simpa using k1
    refine ⟨u, ?_, fun _ w2 _ => ?_, by simpa [RepP, RepV] using k2⟩
    ·dsimp only
     rw [e2]
     simp only [Instr.extract, k1', Sem.run_bind, Sem.run_pure, Result.andThen_ok]
    ·dsimp only
     rw [e2]
     simp only [Instr.extract, k1', Sem.run_bind, Sem.run_pure, Result.andThen_ok]
   ·rename_i s hi
    simp only [Option.some.injEq, Prod.mk.injEq] at h
    obtain ⟨rfl, rfl⟩ := h
    obtain ⟨u, k1, k2⟩ := h2.get hi
    have k1' : vs[i]? = some u := by simpa using k1
    refine ⟨u, ?_, fun _ w2 _ => ?_, by simpa [RepP, RepV] using k2⟩
    ·dsimp only
     rw [e2]
     simp only [Instr.extract, k1', Sem.run_bind, Sem.run_pure, Result.andThen_ok]
    ·dsimp only
     rw [e2]
     simp only [Instr.extract, k1', Sem.run_bind, Sem.run_pure, Result.andThen_ok]
   ·cases h
  ·cases h
 ·rename_i f caps ho
  rw [ho]
  split at h
  ·rename_i l hl
   simp only [Option.some.injEq, Prod.mk.injEq] at h
   obtain ⟨rfl, rfl⟩ := h
   refine ⟨_, rfl, fun _ _ _ => rfl, caps.toList.map a.eval, ?_, capsOf_rep r hl⟩
   have e1 : caps.map a.eval = (caps.toList.map a.eval).toArray := by apply Array.ext'; simp
   have e2 : Array.map a.eval (⟨[]⟩ : Array Operand) = #[] := by simp
   rw [e1, e2]
  ·cases h
 ·rename_i x t ho
  rw [ho]
  split at h
  ·rename_i s1 e1
   unfold scO at h
   split at h
   ·rename_i s hb
    simp only [Option.some.injEq, Prod.mk.injEq] at h
    obtain ⟨rfl, rfl⟩ := h
    have h1 := hev x
    rw [e1] at h1
    obtain ⟨z, k1, k2⟩ := sLen_sound (P := P) (ty := o.type) r hb h1
    refine ⟨z, ?_, fun _ w2 _ => ?_, k2⟩
    ·simp only [resolve, invoke, builtin, Sem.run_bind, Sem.run_pure, Result.andThen_ok, List.map_toArray, List.map_cons, List.map_nil, k1 w]
    ·simp only [resolve, invoke, builtin, Sem.run_bind, Sem.run_pure, Result.andThen_ok, List.map_toArray, List.map_cons, List.map_nil, k1 w2]
   ·cases h
  ·cases h
 ·rename_i x y ts ho
  rw [ho]
  unfold svO sMin at h
  have h1 := hev x
  have h2 := hev y
  revert h h1 h2
  generalize ev gt st x = sx
  generalize ev gt st y = sy
  intro h h1 h2
  split at h
  ·rename_i s hs
   split at hs
   ·rename_i k p k' q
    simp only [Option.some.injEq] at hs
    simp only [Option.some.injEq, Prod.mk.injEq] at h
    obtain ⟨rfl, rfl⟩ := h
    subst hs
    simp only [RepV, RepC] at h1 h2
    refine ⟨_, ?_, fun _ w2 _ => ?_, rfl⟩
    ·simp only [resolve, invoke, builtin, Sem.run_bind, Sem.run_pure, Result.andThen_ok, List.map_toArray, List.map_cons, List.map_nil, h1, h2, qab, zcn]
     rfl
    ·simp only [resolve, invoke, builtin, Sem.run_bind, Sem.run_pure, Result.andThen_ok, List.map_toArray, List.map_cons, List.map_nil, h1, h2, qab, zcn]
     rfl
   ·cases hs
  ·cases h
 ·rename_i x y ts ho
  rw [ho]
  unfold svO sMin at h
  have h1 := hev x
  have h2 := hev y
  revert h h1 h2
  generalize ev gt st x = sx
  generalize ev gt st y = sy
  intro h h1 h2
  split at h
  ·rename_i s hs
   split at hs
   ·rename_i k p k' q
    simp only [Option.some.injEq] at hs
    simp only [Option.some.injEq, Prod.mk.injEq] at h
    obtain ⟨rfl, rfl⟩ := h
    subst hs
    simp only [RepV, RepC] at h1 h2
    refine ⟨_, ?_, fun _ w2 _ => ?_, rfl⟩
    ·simp only [resolve, invoke, builtin, Sem.run_bind, Sem.run_pure, Result.andThen_ok, List.map_toArray, List.map_cons, List.map_nil, h1, h2, z8h, zcn]
     rfl
    ·simp only [resolve, invoke, builtin, Sem.run_bind, Sem.run_pure, Result.andThen_ok, List.map_toArray, List.map_cons, List.map_nil, h1, h2, z8h, zcn]
     rfl
   ·cases hs
  ·cases h
 ·rename_i t m k ok ho
  rw [ho]
  split at h
  ·rename_i fr b e s e1 e2
   split at h
   ·rename_i hm
    simp only [Option.some.injEq, Prod.mk.injEq] at h
    obtain ⟨rfl, rfl⟩ := h
    have h1 := hev m
    have h2 := hev k
    rw [e1] at h1
    rw [e2] at h2
    obtain ⟨z, k1, k2⟩ := sLook_sound (P := P) (ok := ok) hm h1 h2
    exact ⟨z, run_v (k1 w (Below.refl _ _)), fun _ w2 hw => run_v (k1 w2 (hw.resolve_right (by simp [isP]))), k2⟩
   ·cases h
  ·cases h
 ·rename_i f x ho
  rw [ho]
  split at h
  ·rename_i b ver e1
   simp only [Option.some.injEq, Prod.mk.injEq] at h
   obtain ⟨rfl, rfl⟩ := h
   have h1 := hev x
   rw [e1] at h1
   refine ⟨_, rfl, fun _ _ _ => rfl, a.eval x, ?_, h1.1, h1.2⟩
   simp
  ·cases h
 ·cases h
end
end Go.Proofs.YtlhagkbhojmjpaaGreatDoor
namespace Go.Proofs.YtlhagkbhojmjpaaGreatDoor
open Go.RowKit
section
variable {Γ : CEnv} {gt : GT} {ρ : List TV} {B : Nat} {G : Nat → Prop} {st : SS} {as : List Value} {vss : List (Array Value)} {w : World} {P : Program}
theorem zj1 (w : World) (o : Obj) (k : Nat) : (w.alloc o).heap[k]? = if k = w.heap.size then some o else w.heap[k]? := by
 show (w.heap.push o)[k]? = _
 rw [Array.getElem?_push]
theorem z2i {G' : Nat → Prop} (o : Obj) (hG : ∀ g, G' g → G g ∨ g = w.heap.size) : Mem.le (zau w G) (zau (w.alloc o) G') ∧ Mem.le (fresh w G B) (fresh (w.alloc o) G' B) := by
 have key : ∀ g ob, w.heap[g]? = some ob → ¬ G g → (w.alloc o).heap[g]? = some ob ∧ ¬ G' g := by
  intro g ob h1 h2
  have hlt : g < w.heap.size := (Array.getElem?_eq_some_iff.1 h1).1
  refine ⟨by rw [zj1, if_neg (by omega)]; exact h1, fun h3 => ?_⟩
  rcases hG g h3 with h4 | h4
  ·exact h2 h4
  ·omega
 exact ⟨fun g ob h => key g ob h.1 h.2, fun g ob h => let ⟨a, b⟩ := key g ob h.1 h.2.1; ⟨a, b, h.2.2⟩⟩
theorem Tr.push (Γ : CEnv) (ρ : List TV) (hp : List Blk) (as : List Value) (hl : as.length = hp.length) (blk : Blk) (va : Value) : Tr Γ ρ hp as (hp ++ [blk]) (as ++ [va]) :=
 ⟨fun b blk' va' h1 h2 => ⟨blk', va', by rw [List.getElem?_append_left (List.getElem?_eq_some_iff.1 h1).1]; exact h1, by rw [List.getElem?_append_left (List.getElem?_eq_some_iff.1 h2).1]; exact h2, Nat.le_refl _,
  fun _ => ⟨rfl, rfl, rfl, fun e h => ⟨e, h⟩⟩⟩⟩
theorem zbv {α : Type} {l : List α} {x y : α} {i : Nat} (h : (l ++ [x])[i]? = some y) : l[i]? = some y ∨ (i = l.length ∧ y = x) := by
 rw [List.getElem?_append] at h
 split at h
 ·exact .inl h
 ·right
  have : i - l.length = 0 := by
   by_cases h0 : i - l.length = 0
   ·exact h0
   ·rw [List.getElem?_eq_none (by simp; omega)] at h; cases h
  rw [this] at h
  simp at h
  exact ⟨by omega, h.symm⟩
theorem live_g {hp : List Blk} {M Mf : Mem} {blk : Blk} {va : Value} {w : World} (r : Rel Γ gt ρ B G st as vss w) {b : Nat} (h1 : st.heap[b]? = some blk) (h2 : as[b]? = some va) (hl : blk.live = true) {g : Nat} (hg : gOf va = some g) : g < w.heap.size ∧ B ≤ g :=
 let h := r.gs g (r.own b blk va g h1 h2 hl hg); ⟨h.2, h.1⟩
theorem Rel.alloc (r : Rel Γ gt ρ B G st as vss w) (o : Obj) (blk : Blk) (va : Value) (hlive : blk.live = true) (hg : gOf va = some w.heap.size)
  (hb : BlkRel Γ ρ (st.heap ++ [blk]) (as ++ [va]) (zau (w.alloc o) fun g => G g ∨ g = w.heap.size) (fresh (w.alloc o) (fun g => G g ∨ g = w.heap.size) B) B (w.alloc o) blk va) :
  Rel Γ gt ρ B (fun g => G g ∨ g = w.heap.size) { st with heap := st.heap ++ [blk] } (as ++ [va]) vss (w.alloc o) := by
 have hm := z2i (B := B) (G := G) (w := w) (G' := fun g => G g ∨ g = w.heap.size) o (fun g h => h)
 have tr := Tr.push Γ ρ st.heap as r.alen blk va
 refine r.step _ tr hm.1 hm.2 (by simp [r.alen]) ?_ ?_ ?_ (by have := r.base; simp; omega) ?_
 ·intro b blk' va' h1 h2
  rcases zbv h1 with h1 | ⟨e1, rfl⟩
  ·rcases zbv h2 with h2 | ⟨e2, rfl⟩
   ·exact BlkRel.tr tr hm.1 hm.2 (r.blks b blk' va' h1 h2) fun hl g hg' => by
     have := live_g (hp := []) (M := zau w G) (Mf := zau w G) r h1 h2 hl hg'
     rw [zj1, if_neg (by omega)]
   ·have := (List.getElem?_eq_some_iff.1 h1).1
    have := r.alen
    omega
  ·rcases zbv h2 with h2 | ⟨e2, rfl⟩
   ·have := (List.getElem?_eq_some_iff.1 h2).1
    have := r.alen
    omega
   ·exact hb
 ·intro b blk' va' g h1 h2 hl hg'
  rcases zbv h1 with h1 | ⟨e1, rfl⟩
  ·rcases zbv h2 with h2 | ⟨e2, rfl⟩
   ·exact .inl (r.own b blk' va' g h1 h2 hl hg')
   ·rw [hg] at hg'; injection hg' with hg'; exact .inr hg'.symm
  ·rcases zbv h2 with h2 | ⟨e2, rfl⟩
   ·have := (List.getElem?_eq_some_iff.1 h2).1
    have := r.alen
    omega
   ·rw [hg] at hg'; injection hg' with hg'; exact .inr hg'.symm
 ·intro b b' blk1 blk2 va1 va2 g h1 h2 hl1 hg1 h3 h4 hl2 hg2
  have hl := r.alen
  rcases zbv h1 with h1 | ⟨e1, q1⟩ <;> rcases zbv h2 with h2 | ⟨e2, q2⟩ <;> rcases zbv h3 with h3 | ⟨e3, q3⟩ <;> rcases zbv h4 with h4 | ⟨e4, q4⟩
  all_goals first
   | exact r.dist b b' _ _ _ _ g h1 h2 hl1 hg1 h3 h4 hl2 hg2
   | omega
   |(exfalso; have := (List.getElem?_eq_some_iff.1 h1).1; omega)
   |(exfalso; have := (List.getElem?_eq_some_iff.1 h2).1; omega)
   |(exfalso; have := (List.getElem?_eq_some_iff.1 h3).1; omega)
   |(exfalso; have := (List.getElem?_eq_some_iff.1 h4).1; omega)
   |(exfalso; have h9 := (live_g (hp := []) (M := zau w G) (Mf := zau w G) r h1 h2 hl1 hg1).1; subst q4; rw [hg] at hg2; injection hg2 with hg2; omega)
   |(exfalso; have h9 := (live_g (hp := []) (M := zau w G) (Mf := zau w G) r h3 h4 hl2 hg2).1; subst q2; rw [hg] at hg1; injection hg1 with hg1; omega)
 ·intro g hg'
  rcases hg' with h | h
  ·have := r.gs g h; simp; omega
  ·subst h; have := r.base; simp; omega
theorem Rel.drew (r : Rel Γ gt ρ B G st as vss w) : Rel Γ gt ρ B G st as vss w.drew :=
 ⟨r.nv, r.frames, r.alen, fun b blk va h1 h2 => BlkRel.tr (Tr.refl _ _ _ _) (Mem.le.refl _) (Mem.le.refl _) (r.blks b blk va h1 h2) fun _ _ _ => rfl, r.own, r.dist, r.base, r.gs, r.globs⟩
theorem Rel.other (r : Rel Γ gt ρ B G st as vss w) (o : Obj) : Rel Γ gt ρ B G st as vss (w.alloc o) := by
 have hm := z2i (B := B) (G := G) (w := w) (G' := G) o (fun g h => .inl h)
 have := r.step st.heap (Tr.refl Γ ρ st.heap as) hm.1 hm.2 r.alen (fun b blk va h1 h2 => BlkRel.tr (Tr.refl _ _ _ _) hm.1 hm.2 (r.blks b blk va h1 h2) fun hl g hg => by
  have := live_g (hp := []) (M := zau w G) (Mf := zau w G) r h1 h2 hl hg
  rw [zj1, if_neg (by omega)]) r.own r.dist (by have := r.base; simp; omega) (fun g h => by have := r.gs g h; simp; omega)
 exact this
def Blk.shared (b : Blk) : Blk := { b with own := false }
theorem RepT.of_own {M : Mem} {B : Nat} {blk : Blk} {t : TV} {va : Value} {xs : List Value} (ho : w.ownsRow B blk.ety blk.cs.length va t.asList.length xs) (hr : RowT M blk.ag blk.cs t.asList xs) (hM : ∀ g o, gOf va = some g → w.heap[g]? = some o → M g o) :
  RepT M (.slice blk.ag blk.cs) t va ∧ zhq va := by
 rcases ho.2 with ⟨rfl, hn⟩ | ⟨g, cap, cur, rfl, hb, hg, hle, hmax, hsz, htk⟩
 ·exact ⟨.empty _ _ _ _ _ (List.eq_nil_of_length_eq_zero hn) (fun _ => rfl) (Nat.zero_le _), .inl rfl⟩
 ·refine ⟨?_, .inr ⟨g, _, cap, rfl⟩⟩
  have hget : ∀ (j : Nat) (u : Value), xs[j]? = some u → cur[j]? = some u := by
   intro j u hu
   rw [← htk, List.getElem?_take] at hu
   split at hu
   ·simpa using hu
   ·cases hu
  refine .slice _ _ t g 0 cap cur blk.ety (0, 0) (fun i c => (xs[i * blk.cs.length + c]?).getD undef) (hM g _ rfl hg) hle hmax (fun i hi c hc => ?_) (fun i hi c hc => ?_)
  ·obtain ⟨v, k1, k2⟩ := hr.2 i hi c hc
   rw [Nat.zero_add, hget _ _ k1, k1]
   rfl
  ·obtain ⟨v, k1, k2⟩ := hr.2 i hi c hc
   rw [k1]
   exact k2
theorem zc4 {α : Type} {l : List α} {x y : α} {i j : Nat} (h : (l.set i x)[j]? = some y) : (j = i ∧ y = x) ∨ (j ≠ i ∧ l[j]? = some y) := by
 rw [List.getElem?_set] at h
 by_cases hij : i = j
 ·rw [if_pos hij] at h
  split at h
  ·simp at h; exact .inl ⟨hij.symm, h.symm⟩
  ·cases h
 ·rw [if_neg hij] at h; exact .inr ⟨fun e => hij e.symm, h⟩
theorem Rel.share (r : Rel Γ gt ρ B G st as vss w) {b : Nat} {blk : Blk} {e : E} (hb : st.heap[b]? = some blk) (hc : blk.cont = .row e) (ho : blk.own = true) :
  ∃ G', Rel Γ gt ρ B G' { st with heap := st.heap.set b blk.shared } as vss w ∧ Tr Γ ρ st.heap as (st.heap.set b blk.shared) as ∧ Mem.le (zau w G) (zau w G') ∧ Mem.le (fresh w G B) (fresh w G' B) := by
 obtain ⟨va, hva⟩ : ∃ va, as[b]? = some va := ⟨_, List.getElem?_eq_getElem (by rw [r.alen]; exact (List.getElem?_eq_some_iff.1 hb).1)⟩
 let G' : Nat → Prop := fun g => G g ∧ ¬ gOf va = some g
 have hm : Mem.le (zau w G) (zau w G') := fun g o h => ⟨h.1, fun k => h.2 k.1⟩
 have hmf : Mem.le (fresh w G B) (fresh w G' B) := fun g o h => ⟨h.1, fun k => h.2.1 k.1, h.2.2⟩
 have tr : Tr Γ ρ st.heap as (st.heap.set b blk.shared) as := ⟨fun b' blk' va' h1 h2 => by
  by_cases hbb : b' = b
  ·subst hbb
   rw [hb] at h1
   injection h1 with h1
   subst h1
   refine ⟨blk.shared, va', ?_, h2, Nat.le_refl _, fun _ => ⟨rfl, rfl, rfl, fun e h => ⟨e, h⟩⟩⟩
   rw [List.getElem?_set, if_pos rfl, if_pos (List.getElem?_eq_some_iff.1 hb).1]
  ·refine ⟨blk', va', ?_, h2, Nat.le_refl _, fun _ => ⟨rfl, rfl, rfl, fun e h => ⟨e, h⟩⟩⟩
   rw [List.getElem?_set, if_neg (fun h => hbb h.symm)]; exact h1⟩
 refine ⟨G', r.step _ tr hm hmf (by rw [r.alen]; simp) ?_ ?_ ?_ r.base (fun g h => r.gs g h.1), tr, hm, hmf⟩
 ·intro b' blk' va' h1 h2
  rcases zc4 h1 with ⟨rfl, rfl⟩ | ⟨hne, h1⟩
  ·rw [hva] at h2
   injection h2 with h2
   subst h2
   have h3 := r.blks _ blk va hb hva
   unfold BlkRel at h3 ⊢
   rw [hc] at h3
   rw [show blk.shared.cont = .row e from hc]
   dsimp only at h3 ⊢
   rw [if_neg (by simp [Blk.shared])]
   rw [if_pos ho] at h3
   ·obtain ⟨xs, k1, k2⟩ := h3
    have hle : Mem.le (pick (zau w G) (fresh w G B) blk.fr) (pick (zau w G') (fresh w G' B) blk.fr) := zoq hm hmf _
    refine RepT.of_own (B := B) (blk := blk) k1 (k2.mono hle) fun g o hg ho => ?_
    have hB : B ≤ g := by
     rcases k1.2 with ⟨rfl, _⟩ | ⟨g', cap, cur, rfl, hb', _⟩
     ·cases hg
     ·injection hg with hg; subst hg; exact hb'
    have hst : w.heap[g]? = some o ∧ ¬ G' g := ⟨ho, fun h => h.2 hg⟩
    show pick (zau w G') (fresh w G' B) blk.fr g o
    cases blk.fr
    ·exact hst
    ·exact ⟨hst.1, hst.2, hB⟩
  ·refine BlkRel.tr tr hm hmf (r.blks b' blk' va' h1 h2) fun _ _ _ => rfl
 ·intro b' blk' va' g h1 h2 hl hg
  rcases zc4 h1 with ⟨rfl, rfl⟩ | ⟨hne, h1⟩
  ·simp [Blk.live, Blk.shared, hc] at hl
  ·refine ⟨r.own b' blk' va' g h1 h2 hl hg, fun h => ?_⟩
   exact hne (r.dist b' b blk' blk va' va g h1 h2 hl hg hb hva (by simp [Blk.live, hc, ho]) h)
 ·intro b1 b2 blk1 blk2 va1 va2 g h1 h2 hl1 hg1 h3 h4 hl2 hg2
  rcases zc4 h1 with ⟨rfl, rfl⟩ | ⟨hne, h1⟩
  ·simp [Blk.live, Blk.shared, hc] at hl1
  ·rcases zc4 h3 with ⟨rfl, rfl⟩ | ⟨hne', h3⟩
   ·simp [Blk.live, Blk.shared, hc] at hl2
   ·exact r.dist b1 b2 blk1 blk2 va1 va2 g h1 h2 hl1 hg1 h3 h4 hl2 hg2
end
end Go.Proofs.YtlhagkbhojmjpaaGreatDoor
namespace Go.Proofs.YtlhagkbhojmjpaaGreatDoor
open Go.RowKit
def zjg {α : Type} (f : α → α → Bool) : List α → List α → Bool
 | [], [] => true
 | a :: x, b :: y => f a b && zjg f x y
 | _, _ => false
theorem zdr {α : Type} {f : α → α → Bool} (hf : ∀ a b, f a b = true → a = b) : ∀ {x y : List α}, zjg f x y = true → x = y
 | [], [], _ => rfl
 | [], _ :: _, h => by simp [zjg] at h
 | _ :: _, [], h => by simp [zjg] at h
 | a :: x, b :: y, h => by
  simp only [zjg, Bool.and_eq_true] at h
  rw [hf _ _ h.1, zdr hf h.2]
def ctEq : Nat → CT → CT → Bool
 | 0, _, _ => false
 | n + 1, a, b => match a, b with
  | .int k, .int l => keq k l
  | .bool, .bool => true
  | .str, .str => true
  | .slice a cs, .slice b ds => (a == b) && zjg (ctEq n) cs ds
  | .map a, .map b => a == b
  | _, _ => false
theorem ctEq_eq : ∀ {n : Nat} {a b : CT}, ctEq n a b = true → a = b
 | 0, a, b, h => by simp [ctEq] at h
 | n + 1, a, b, h => by
  cases a <;> cases b <;> simp only [ctEq, Bool.false_eq_true, Bool.and_eq_true, beq_iff_eq] at h
  ·rw [zyf h]
  ·rfl
  ·rfl
  ·rw [h.1, zdr (fun _ _ h => ctEq_eq h) h.2]
  ·rw [h]
def ctsEq (a b : List CT) : Bool := zjg (ctEq 12) a b
theorem zh8 {a b : List CT} (h : ctsEq a b = true) : a = b := zdr (fun _ _ h => ctEq_eq h) h
section
variable {Γ : CEnv} {gt : GT} {ρ : List TV} {B : Nat} {G : Nat → Prop} {st : SS} {as : List Value} {vss : List (Array Value)} {w : World} {P : Program}
def shareB (hp : List Blk) (b : Nat) : List Blk := match hp[b]? with
 | some blk => if blk.own then hp.set b blk.shared else hp
 | none => hp
def reify (hp : List Blk) (ct : CT) (s : SC) : Option (Bool × E × List Blk) := match ct, s with
 | .int k, .int k' e => if keq k k' then some (true, e, hp) else none
 | .bool, .bool e => some (true, e, hp)
 | .str, .str e => some (true, e, hp)
 | .slice ag cs, .nil => some (true, .nil, hp)
 | .slice ag cs, .imm fr ag' cs' e => if (ag == ag') && ctsEq cs cs' then some (fr, e, hp) else none
 | .map a, .mp fr b e => if a == b then some (fr, e, hp) else none
 | .slice ag cs, .own b ver => match hp[b]? with
  | some blk => if Nat.beq blk.ver ver && (ag == blk.ag) && ctsEq cs blk.cs then (match blk.cont with
   | .row e => some (blk.fr, e, shareB hp b)
   | _ => none) else none
  | none => none
 | .slice ag cs, .sub b ver lo hi => match hp[b]? with
  | some blk => if Nat.beq blk.ver ver && (ag == blk.ag) && ctsEq cs blk.cs then (match blk.cont with
   | .row e => some (blk.fr, subE e lo hi, shareB hp b)
   | _ => none) else none
  | none => none
 | _, _ => none
structure Later (Γ : CEnv) (gt : GT) (ρ : List TV) (B : Nat) (G : Nat → Prop) (st : SS) (as : List Value) (vss : List (Array Value)) (w : World) (hp' : List Blk) (G' : Nat → Prop) : Prop where
 rel : Rel Γ gt ρ B G' { st with heap := hp' } as vss w
 tr : Tr Γ ρ st.heap as hp' as
 m : Mem.le (zau w G) (zau w G')
 mf : Mem.le (fresh w G B) (fresh w G' B)
theorem Later.refl (r : Rel Γ gt ρ B G st as vss w) : Later Γ gt ρ B G st as vss w st.heap G := ⟨r, Tr.refl _ _ _ _, Mem.le.refl _, Mem.le.refl _⟩
theorem Tr.trans {hp hp' hp'' : List Blk} {as as' as'' : List Value} (h : Tr Γ ρ hp as hp' as') (k : Tr Γ ρ hp' as' hp'' as'') : Tr Γ ρ hp as hp'' as'' :=
 ⟨fun b blk va h1 h2 => by
  obtain ⟨blk', va', a1, a2, a3, a4⟩ := h.blk b blk va h1 h2
  obtain ⟨blk'', va'', b1, b2, b3, b4⟩ := k.blk b blk' va' a1 a2
  refine ⟨blk'', va'', b1, b2, Nat.le_trans a3 b3, fun e => ?_⟩
  obtain ⟨c1, c2, c3, c4⟩ := a4 (by omega)
  obtain ⟨d1, d2, d3, d4⟩ := b4 (by omega)
  exact ⟨d1.trans c1, d2.trans c2, d3.trans c3, fun e he => let ⟨e', he'⟩ := c4 e he; d4 e' he'⟩⟩
theorem Later.trans {hp' hp'' : List Blk} {G' G'' : Nat → Prop} (h : Later Γ gt ρ B G st as vss w hp' G') (k : Later Γ gt ρ B G' { st with heap := hp' } as vss w hp'' G'') : Later Γ gt ρ B G st as vss w hp'' G'' :=
 ⟨k.rel, h.tr.trans k.tr, h.m.trans k.m, h.mf.trans k.mf⟩
theorem Later.shareB (r : Rel Γ gt ρ B G st as vss w) (b : Nat) {blk : Blk} {e : E} (hb : st.heap[b]? = some blk) (hc : blk.cont = .row e) : ∃ G', Later Γ gt ρ B G st as vss w (shareB st.heap b) G' ∧
  ∃ blk' va, (Proofs.YtlhagkbhojmjpaaGreatDoor.shareB st.heap b)[b]? = some blk' ∧ as[b]? = some va ∧ blk'.own = false ∧ blk'.cont = .row e ∧ blk'.ver = blk.ver ∧ blk'.fr = blk.fr ∧ blk'.ag = blk.ag ∧ blk'.cs = blk.cs := by
 obtain ⟨va, hva⟩ : ∃ va, as[b]? = some va := ⟨_, List.getElem?_eq_getElem (by rw [r.alen]; exact (List.getElem?_eq_some_iff.1 hb).1)⟩
 unfold Proofs.YtlhagkbhojmjpaaGreatDoor.shareB
 rw [hb]
 dsimp only
 by_cases ho : blk.own = true
 ·rw [if_pos ho]
  obtain ⟨G', h1, h2, h3, h4⟩ := r.share hb hc ho
  refine ⟨G', ⟨h1, h2, h3, h4⟩, blk.shared, va, ?_, hva, rfl, hc, rfl, rfl, rfl, rfl⟩
  rw [List.getElem?_set, if_pos rfl, if_pos (List.getElem?_eq_some_iff.1 hb).1]
 ·rw [if_neg ho]
  exact ⟨G, .refl r, blk, va, hb, hva, by simpa using ho, hc, rfl, rfl, rfl, rfl⟩
theorem sub_slice {M : Mem} {ag : Bool} {cs : List CT} {t : TV} {va v : Value} {lo hi : Int} (r : RepT M (.slice ag cs) t va) (hh : zhq va) (h0 : 0 ≤ lo) (h1 : lo ≤ hi) (h2 : hi ≤ t.asList.length) {a : Option Addr} {cap : Nat}
  (hv : v = .slice a (hi - lo).toNat cap) (hcap : (hi - lo).toNat ≤ cap) (hmax : cap ≤ maxLen) (hn : a = none → cap = 0) (hk : lo = hi ∨ ∃ g l c, va = .slice (some ⟨g, 0, none⟩) l c ∧ a = some ⟨g, lo.toNat * cs.length, none⟩) :
  RepT M (.slice ag cs) (.list ((t.asList.drop lo.toNat).take (hi.toNat - lo.toNat))) v := by
 have hlen : ((t.asList.drop lo.toNat).take (hi.toNat - lo.toNat)).length = (hi - lo).toNat := by rw [List.length_take, List.length_drop]; omega
 by_cases he : lo = hi
 ·subst he
  rw [hv, show (lo - lo).toNat = 0 by omega]
  exact .empty _ _ _ _ _ (by simp [zaa]) hn hmax
 ·rcases hk with hk | ⟨g, l, c, e1, e2⟩
  ·exact absurd hk he
  ·cases r with
   | empty _ _ _ a' cap' q1 q2 q3 => rw [q1] at h2; simp at h2; omega
   | slice _ _ _ g' off cap' cur el fr vals q1 q2 q3 q4 q5 =>
    injection e1 with e3 e4 e5
    injection e3 with e3
    injection e3 with e6 e7
    subst e6 e7
    have := RepT.slice (M := M) ag cs (.list ((t.asList.drop lo.toNat).take (hi.toNat - lo.toNat))) g' (lo.toNat * cs.length) cap cur el fr (fun i c => vals (lo.toNat + i) c) q1 (by rw [zaa, hlen]; exact hcap) hmax
     (fun i hi' c hc => by
      rw [zaa, hlen] at hi'
      have := q4 (lo.toNat + i) (by omega) c hc
      rw [Nat.zero_add, Nat.add_mul] at this
      exact this)
     (fun i hi' c hc => by
      have hi2 := hi'
      rw [zaa, hlen] at hi2
      have := q5 (lo.toNat + i) (by omega) c hc
      have e : (TV.list ((t.asList.drop lo.toNat).take (hi.toNat - lo.toNat))).asList[i] = t.asList[lo.toNat + i]'(by omega) := by simp only [zaa, List.getElem_take, List.getElem_drop]
      rw [e]; exact this)
    rw [zaa, hlen] at this
    rw [hv, e2]
    exact this
theorem zs7 (r : Rel Γ gt ρ B G st as vss w) {ct : CT} {s : SC} {fr : Bool} {e : E} {hp' : List Blk} {v : Value} (h : reify st.heap ct s = some (fr, e, hp')) (hs : RepC Γ ρ st.heap as (zau w G) (fresh w G B) s v) :
  ∃ G', Later Γ gt ρ B G st as vss w hp' G' ∧ RepT (pick (zau w G') (fresh w G' B) fr) ct (e.den Γ ρ) v := by
 have whole : ∀ {b : Nat} {blk : Blk} {va : Value} {c : E} {G' : Nat → Prop} {hp : List Blk}, Rel Γ gt ρ B G' { st with heap := hp } as vss w → hp[b]? = some blk → as[b]? = some va → blk.own = false → blk.cont = .row c →
   RepT (pick (zau w G') (fresh w G' B) blk.fr) (.slice blk.ag blk.cs) (c.den Γ ρ) va ∧ zhq va := by
  intro b blk va c G' hp r' h1 h2 h3 h4
  have := r'.blks b blk va h1 h2
  unfold BlkRel at this
  rw [h4] at this
  dsimp only at this
  rw [if_neg (by simp [h3])] at this
  exact this
 unfold reify at h
 split at h
 ·split at h
  ·rename_i k k' e' hk
   simp only [Option.some.injEq, Prod.mk.injEq] at h
   obtain ⟨rfl, rfl, rfl⟩ := h
   simp only [RepC] at hs
   subst hs
   rw [zyf hk]
   exact ⟨G, .refl r, .int _ _⟩
  ·cases h
 ·simp only [Option.some.injEq, Prod.mk.injEq] at h
  obtain ⟨rfl, rfl, rfl⟩ := h
  simp only [RepC] at hs
  subst hs
  exact ⟨G, .refl r, .bool _⟩
 ·simp only [Option.some.injEq, Prod.mk.injEq] at h
  obtain ⟨rfl, rfl, rfl⟩ := h
  simp only [RepC] at hs
  subst hs
  exact ⟨G, .refl r, .str _⟩
 ·simp only [Option.some.injEq, Prod.mk.injEq] at h
  obtain ⟨rfl, rfl, rfl⟩ := h
  simp only [RepC] at hs
  subst hs
  exact ⟨G, .refl r, .empty _ _ _ _ _ rfl (fun _ => rfl) (Nat.zero_le _)⟩
 ·split at h
  ·rename_i hc
   simp only [Bool.and_eq_true, beq_iff_eq] at hc
   simp only [Option.some.injEq, Prod.mk.injEq] at h
   obtain ⟨rfl, rfl, rfl⟩ := h
   rw [hc.1, zh8 hc.2]
   exact ⟨G, .refl r, hs⟩
  ·cases h
 ·split at h
  ·rename_i hc
   simp only [beq_iff_eq] at hc
   simp only [Option.some.injEq, Prod.mk.injEq] at h
   obtain ⟨rfl, rfl, rfl⟩ := h
   rw [hc]
   exact ⟨G, .refl r, hs⟩
  ·cases h
 ·split at h
  ·rename_i blk hb
   split at h
   ·rename_i hc
    simp only [Bool.and_eq_true, beq_iff_eq] at hc
    split at h
    ·rename_i c hcont
     simp only [Option.some.injEq, Prod.mk.injEq] at h
     obtain ⟨rfl, rfl, rfl⟩ := h
     obtain ⟨_, blk0, va, h1, h2, h3, h4⟩ := hs
     rw [hb] at h1
     injection h1 with h1
     subst h1
     obtain ⟨rfl, _⟩ := h4 (Nat.eq_of_beq_eq_true hc.1.1)
     obtain ⟨G', k1, blk', va', k2, k3, k4, k5, k6, k7, k8, k9⟩ := Later.shareB r _ hb hcont
     rw [h2] at k3
     injection k3 with k3
     subst k3
     have := (whole k1.rel k2 h2 k4 k5).1
     rw [k7, k8, k9] at this
     rw [hc.1.2, zh8 hc.2]
     exact ⟨G', k1, this⟩
    ·cases h
   ·cases h
  ·cases h
 ·split at h
  ·rename_i blk hb
   split at h
   ·rename_i hc
    simp only [Bool.and_eq_true, beq_iff_eq] at hc
    split at h
    ·rename_i c hcont
     simp only [Option.some.injEq, Prod.mk.injEq] at h
     obtain ⟨rfl, rfl, rfl⟩ := h
     obtain ⟨_, blk0, va, h1, h2, h3, h4⟩ := hs
     rw [hb] at h1
     injection h1 with h1
     subst h1
     obtain ⟨⟨n, q1, q2, q3, q4, a, cap, q5, q6, q7, q8, q9⟩, _⟩ := h4 (Nat.eq_of_beq_eq_true hc.1.1)
     obtain ⟨G', k1, blk', va', k2, k3, k4, k5, k6, k7, k8, k9⟩ := Later.shareB r _ hb hcont
     rw [h2] at k3
     injection k3 with k3
     subst k3
     obtain ⟨w1, w2⟩ := whole k1.rel k2 h2 k4 k5
     rw [k7, k8, k9] at w1
     rw [hc.1.2, zh8 hc.2]
     refine ⟨G', k1, ?_⟩
     have hn : n = (c.den Γ ρ).asList.length := by simp only [Blk.len, hcont, Option.some.injEq] at q1; exact q1.symm
     have hsz : blk.size = blk.cs.length := by simp only [Blk.size, hcont]
     rw [hsz] at q9
     rw [hn] at q4
     exact sub_slice w1 w2 q2 q3 q4 q5 q6 q7 q8 q9
    ·cases h
   ·cases h
  ·cases h
 ·cases h
def zte (hp : List Blk) : List CT → List SC → Option (Bool × List E × List Blk)
 | [], [] => some (true, [], hp)
 | ct :: cts, s :: ss => match reify hp ct s with
  | some (fr, e, hp') => match zte hp' cts ss with
   | some (fr', es, hp'') => some (fr && fr', e :: es, hp'')
   | none => none
  | none => none
 | _, _ => none
def zmn (ag : Bool) (es : List E) : Option E := if ag then some (.o1 .agg (es.foldr .cons .nil)) else match es with
 | [e] => some e
 | _ => none
theorem zvv (es : List E) : ((es.foldr E.cons .nil).den Γ ρ).asList = es.map (·.den Γ ρ) := by
 induction es with
 | nil => rfl
 | cons e es ih => simp only [List.foldr_cons, E.den, zaa, ih, List.map_cons]
theorem zw9 {M Mf : Mem} (h : Mem.le Mf M) (a b : Bool) : Mem.le (pick M Mf a) (pick M Mf (a && b)) ∧ Mem.le (pick M Mf b) (pick M Mf (a && b)) := by
 cases a <;> cases b <;> exact ⟨by first | exact Mem.le.refl _ | exact h, by first | exact Mem.le.refl _ | exact h⟩
theorem RepCs.later {hp' : List Blk} {G' : Nat → Prop} (l : Later Γ gt ρ B G st as vss w hp' G') {cs : List SC} {vs : List Value} (h : RepCs Γ ρ st.heap as (zau w G) (fresh w G B) cs vs) : RepCs Γ ρ hp' as (zau w G') (fresh w G' B) cs vs := h.tr l.tr l.m l.mf
theorem zmq : ∀ {cts : List CT} {ss : List SC} {st : SS} {G : Nat → Prop} {fr : Bool} {es : List E} {hp' : List Blk} {vs : List Value} (r : Rel Γ gt ρ B G st as vss w) (h : zte st.heap cts ss = some (fr, es, hp'))
  (hs : RepCs Γ ρ st.heap as (zau w G) (fresh w G B) ss vs),
  ∃ G', Later Γ gt ρ B G st as vss w hp' G' ∧ es.length = cts.length ∧ vs.length = cts.length ∧ ∀ (c : Nat) (ct : CT), cts[c]? = some ct → ∃ e v, es[c]? = some e ∧ vs[c]? = some v ∧ RepT (pick (zau w G') (fresh w G' B) fr) ct (e.den Γ ρ) v
 | [], [], st, G, fr, es, hp', vs, r, h, hs => by
  simp only [zte, Option.some.injEq, Prod.mk.injEq] at h
  obtain ⟨rfl, rfl, rfl⟩ := h
  exact ⟨G, .refl r, rfl, by have := hs.1; simp at this; simp [this], fun c ct h => by simp at h⟩
 | ct :: cts, s :: ss, st, G, fr, es, hp', vs, r, h, hs => by
  cases vs with
  | nil => have := hs.1; simp at this
  | cons v vs =>
   simp only [zte] at h
   split at h
   ·rename_i fr1 e1 hp1 h1
    split at h
    ·rename_i fr2 es2 hp2 h2
     simp only [Option.some.injEq, Prod.mk.injEq] at h
     obtain ⟨rfl, rfl, rfl⟩ := h
     obtain ⟨G1, l1, t1⟩ := zs7 r h1 (hs.2 0 _ _ rfl rfl)
     have hrest : RepCs Γ ρ hp1 as (zau w G1) (fresh w G1 B) ss vs := by
      have := (RepCs.later l1 hs).drop 1
      simpa [RepCs] using this
     obtain ⟨G2, l2, e2, e3, t2⟩ := zmq l1.rel h2 hrest
     refine ⟨G2, l1.trans l2, by simp [e2], by simp [e3], fun c ct' hc => ?_⟩
     have hpa := zw9 (zw3 w G2 B) fr1 fr2
     cases c with
     | zero =>
      simp at hc
      subst hc
      exact ⟨e1, v, rfl, rfl, (t1.mono (zoq l2.m l2.mf _)).mono hpa.1⟩
     | succ c =>
      obtain ⟨e, u, q1, q2, q3⟩ := t2 c ct' (by simpa using hc)
      exact ⟨e, u, by simpa using q1, by simpa using q2, q3.mono hpa.2⟩
    ·cases h
   ·cases h
 | [], _ :: _, st, G, fr, es, hp', vs, r, h, hs => by simp [zte] at h
 | _ :: _, [], st, G, fr, es, hp', vs, r, h, hs => by simp [zte] at h
theorem zxd {M : Mem} {ag : Bool} {es : List E} {e : E} {cts : List CT} {vs : List Value} (h : zmn ag es = some e) (hl : es.length = cts.length) (hv : vs.length = cts.length)
  (hr : ∀ (c : Nat) (ct : CT), cts[c]? = some ct → ∃ e v, es[c]? = some e ∧ vs[c]? = some v ∧ RepT M ct (e.den Γ ρ) v) : CellsT M ag cts (e.den Γ ρ) vs := by
 refine ⟨hv, fun c hc => ?_⟩
 obtain ⟨e', v, k1, k2, k3⟩ := hr c cts[c] (List.getElem?_eq_getElem hc)
 refine ⟨v, k2, ?_⟩
 unfold zmn at h
 unfold zbk
 split at h
 ·rename_i hag
  simp only [Option.some.injEq] at h
  subst h
  rw [if_pos hag]
  simp only [E.den, P1.den, TV.cell, zae, zvv]
  rw [List.getD_eq_getElem?_getD, List.getElem?_map, k1]
  exact k3
 ·rename_i hag
  rw [if_neg hag]
  split at h
  ·simp only [Option.some.injEq] at h
   subst h
   simp only [List.length_singleton] at hl
   have : c = 0 := by omega
   subst this
   simp at k1
   rw [k1]
   exact k3
  ·cases h
end
end Go.Proofs.YtlhagkbhojmjpaaGreatDoor
namespace Go.Proofs.YtlhagkbhojmjpaaGreatDoor
open Go.RowKit
section
variable {Γ : CEnv} {gt : GT} {ρ : List TV} {B : Nat} {G : Nat → Prop} {st : SS} {as : List Value} {vss : List (Array Value)} {w : World} {P : Program}
def boxB (t : TypeId) (cs : List SC) : Blk := ⟨0, true, true, t, false, [], .box cs⟩
def newBox (st : SS) (t : TypeId) (cs : List SC) : Out := ⟨[], .sc (.ptr st.heap.length 0 (.int 0) 0), st.heap ++ [boxB t cs], false⟩
theorem z8u (w : World) (o : Obj) : Below w.heap.size w (w.alloc o) := (Below.refl _ _).alloc (Nat.le_refl _) o
theorem done_box (r : Rel Γ gt ρ B G st as vss w) {cs : List SC} {vals : Array Value} (t : TypeId) (h : RepCs Γ ρ st.heap as (zau w G) (fresh w G B) cs vals.toList) :
  Done P Γ gt ρ B st vss w (newBox st t cs) (.ok (.pointer (some ⟨w.heap.size, 0, none⟩)) (w.alloc (.cells vals t))) := by
 have hm := z2i (B := B) (G := G) (w := w) (G' := fun g => G g ∨ g = w.heap.size) (.cells vals t) (fun g h => h)
 have tr := Tr.push Γ ρ st.heap as r.alen (boxB t cs) (.pointer (some ⟨w.heap.size, 0, none⟩))
 have hr := r.alloc (.cells vals t) (boxB t cs) (.pointer (some ⟨w.heap.size, 0, none⟩)) rfl rfl ⟨w.heap.size, vals, rfl, r.base, by rw [zj1, if_pos rfl]; rfl, h.tr tr hm.1 hm.2⟩
 refine ⟨_, _, _, _, rfl, hr, ?_, (z8u w _).mono r.base, fun _ => z8u w _⟩
 refine ⟨rfl, boxB t cs, .pointer (some ⟨w.heap.size, 0, none⟩), by simp [newBox], by simp [newBox, ← r.alen], Nat.le_refl _, fun _ => ⟨1, w.heap.size, rfl, by simp [E.den, TV.asInt], by simp [E.den, TV.asInt], rfl, by simp [E.den, TV.asInt]⟩⟩
theorem done_arr (r : Rel Γ gt ρ B G st as vss w) {cs : List SC} {vals : Array Value} (t : TypeId) (n : Nat) (h : RepCs Γ ρ st.heap as (zau w G) (fresh w G B) cs vals.toList) :
  Done P Γ gt ρ B st vss w ⟨[], .sc (.arr st.heap.length 0 n), st.heap ++ [boxB t cs], false⟩ (.ok (.slice (some ⟨w.heap.size, 0, none⟩) n n) (w.alloc (.cells vals t))) := by
 have hm := z2i (B := B) (G := G) (w := w) (G' := fun g => G g ∨ g = w.heap.size) (.cells vals t) (fun g h => h)
 have tr := Tr.push Γ ρ st.heap as r.alen (boxB t cs) (.pointer (some ⟨w.heap.size, 0, none⟩))
 have hr := r.alloc (.cells vals t) (boxB t cs) (.pointer (some ⟨w.heap.size, 0, none⟩)) rfl rfl ⟨w.heap.size, vals, rfl, r.base, by rw [zj1, if_pos rfl]; rfl, h.tr tr hm.1 hm.2⟩
 refine ⟨_, _, _, _, rfl, hr, ?_, (z8u w _).mono r.base, fun _ => z8u w _⟩
 exact ⟨w.heap.size, rfl, boxB t cs, .pointer (some ⟨w.heap.size, 0, none⟩), by simp, by simp [← r.alen], Nat.le_refl _, fun _ => ⟨1, w.heap.size, rfl, by simp, by simp, rfl, by simp⟩⟩
def arrB (ag : Bool) (cts : List CT) (n : Nat) (cells : List SC) : Bool := !ag && (match cts with
 | [.slice ..] => true
 | _ => false) && Nat.beq cells.length n && cells.all (fun s => match s with | .nil => true | .mth .. => true | _ => false) && Nat.blt 0 cells.length
def rowB (fr : Bool) (e : TypeId) (ag : Bool) (cs : List CT) (c : E) : Blk := ⟨0, true, fr, e, ag, cs, .row c⟩
def newRow (st : SS) (req : List E) (hp : List Blk) (fr : Bool) (e : TypeId) (ag : Bool) (cs : List CT) (c : E) : Out := ⟨req, .sc (.own hp.length 0), hp ++ [rowB fr e ag cs c], false⟩
theorem done_row {hp : List Blk} {G' : Nat → Prop} (r : Rel Γ gt ρ B G st as vss w) (l : Later Γ gt ρ B G st as vss w hp G') {w1 : World} (hw : w1.heap = w.heap) (hos : w1.os = w.os) (htp : w1.tape = w.tape) (hou : w1.output = w.output) {vals : Array Value} {e : TypeId} {fr ag : Bool} {cs : List CT} {c : E} {n cap : Nat} {xs : List Value} {req : List E}
  (hn : n = (c.den Γ ρ).asList.length) (hrow : RowT (pick (zau w G') (fresh w G' B) fr) ag cs (c.den Γ ρ).asList xs) (hle : n ≤ cap) (hmax : cap ≤ maxLen) (hsz : vals.size = cap * cs.length) (hx : vals.toList.take (n * cs.length) = xs) :
  Done P Γ gt ρ B st vss w (newRow st req hp fr e ag cs c) (.ok (.slice (some ⟨w.heap.size, 0, none⟩) n cap) (w1.alloc (.cells vals e))) := by
 have r1 := l.rel
 have hr1 : Rel Γ gt ρ B G' { st with heap := hp } as vss w1 := by
  have hst : zau w1 G' = zau w G' := by funext g o; simp only [zau, hw]
  have hfr : fresh w1 G' B = fresh w G' B := by funext g o; simp only [fresh, hw]
  refine ⟨r1.nv, by rw [hst, hfr]; exact r1.frames, r1.alen, fun b blk va h1 h2 => ?_, r1.own, r1.dist, by rw [hw]; exact r1.base, fun g h => by rw [hw]; exact r1.gs g h, fun g ag cs h => by rw [hst]; exact r1.globs g ag cs h⟩
  rw [hst, hfr]
  exact BlkRel.tr (Tr.refl _ _ _ _) (Mem.le.refl _) (Mem.le.refl _) (r1.blks b blk va h1 h2) fun _ g _ => by rw [hw]
 have hws : w1.heap.size = w.heap.size := by rw [hw]
 have hm := z2i (B := B) (G := G') (w := w1) (G' := fun g => G' g ∨ g = w1.heap.size) (.cells vals e) (fun g h => h)
 have hst : zau w1 G' = zau w G' := by funext g o; simp only [zau, hw]
 have hfr : fresh w1 G' B = fresh w G' B := by funext g o; simp only [fresh, hw]
 have hr := hr1.alloc (.cells vals e) (rowB fr e ag cs c) (.slice (some ⟨w.heap.size, 0, none⟩) n cap) rfl (by rw [hws]; rfl) (by
  refine ⟨xs, ⟨?_, .inr ⟨w.heap.size, cap, vals, by rw [hn], r.base, by rw [zj1, if_pos hws.symm]; rfl, by rw [← hn]; exact hle, hmax, hsz, by rw [← hn]; exact hx⟩⟩, ?_⟩
  ·exact hrow.1
  ·refine hrow.mono (zoq ?_ ?_ _)
   ·rw [← hst]; exact hm.1
   ·rw [← hfr]; exact hm.2)
 have hb : Below w.heap.size w (w1.alloc (.cells vals e)) := ⟨hos, htp, hou, by show w.heap.size ≤ (w1.heap.push _).size; rw [Array.size_push, hws]; omega, fun k hk => by rw [zj1, if_neg (by omega), hw]⟩
 refine ⟨_, _, _, _, rfl, hr, ?_, hb.mono r.base, fun _ => hb⟩
 refine ⟨rfl, rowB fr e ag cs c, .slice (some ⟨w.heap.size, 0, none⟩) n cap, by simp [newRow], ?_, Nat.le_refl _, fun _ => ⟨rfl, c, rfl⟩⟩
 have hal : as.length = hp.length := r1.alen
 rw [← hal, List.getElem?_append_right (Nat.le_refl _)]
 simp
def shapeP (P : Program) : Nat → TypeId → Option (Bool × List CT)
 | 0, _ => none
 | d + 1, t => match P.underlying t with
  | some (.int k) => some (false, [.int k])
  | some .bool => some (false, [.bool])
  | some .string => some (false, [.str])
  | some (.slice e) => match shapeP P d e with
   | some (ag, cs) => some (false, [.slice ag cs])
   | none => none
  | some (.struct fs) => match fs.toList.mapM (fun f => (shapeP P d f.type).map (·.2)) with
   | some l => some (true, l.flatten)
   | none => none
  | some (.func ..) => some (false, [.slice false []])
  | some (.map _ e) => match P.underlying e with
   | some .bool => some (false, [.map true])
   | some (.int .i64) => some (false, [.map false])
   | _ => none
  | some (.array n e) => match shapeP P d e with
   | some (_, cs) => some (true, (List.replicate n cs).flatten)
   | none => none
  | _ => none
theorem RowT.cons {M : Mem} {ag : Bool} {cs : List CT} {t : TV} {ts : List TV} {xs ys : List Value} (h : CellsT M ag cs t xs) (k : RowT M ag cs ts ys) : RowT M ag cs (t :: ts) (xs ++ ys) := by
 refine ⟨by rw [List.length_append, h.1, k.1, List.length_cons, Nat.add_mul]; omega, fun i hi c hc => ?_⟩
 cases i with
 | zero =>
  obtain ⟨v, h1, h2⟩ := h.2 c hc
  exact ⟨v, by rw [Nat.zero_mul, Nat.zero_add, List.getElem?_append_left (by rw [h.1]; exact hc)]; exact h1, h2⟩
 | succ i =>
  obtain ⟨v, h1, h2⟩ := k.2 i (by simpa using hi) c hc
  refine ⟨v, ?_, h2⟩
  rw [List.getElem?_append_right (by rw [h.1, Nat.add_mul]; omega), h.1]
  rw [show (i + 1) * cs.length + c - cs.length = i * cs.length + c by rw [Nat.add_mul]; omega]
  exact h1
theorem RowT.nil {M : Mem} {ag : Bool} {cs : List CT} : RowT M ag cs [] [] := ⟨by simp, fun i hi => by simp at hi⟩
theorem CellsT.mono {M M' : Mem} (h : Mem.le M M') {ag : Bool} {cs : List CT} {t : TV} {xs : List Value} (r : CellsT M ag cs t xs) : CellsT M' ag cs t xs :=
 ⟨r.1, fun c hc => let ⟨v, a, b⟩ := r.2 c hc; ⟨v, a, b.mono h⟩⟩
def zqb (ag : Bool) (cts : List CT) : Nat → List SC → List Blk → Option (Bool × List E × List Blk)
 | 0, [], hp => some (true, [], hp)
 | 0, _ :: _, _ => none
 | n + 1, ss, hp => match zte hp cts (ss.take cts.length) with
  | some (fr, es, hp') => match zmn ag es, zqb ag cts n (ss.drop cts.length) hp' with
   | some e, some (fr', l, hp'') => some (fr && fr', e :: l, hp'')
   | _, _ => none
  | none => none
theorem zwv {ag : Bool} {cts : List CT} : ∀ {n : Nat} {ss : List SC} {st : SS} {G : Nat → Prop} {fr : Bool} {es : List E} {hp' : List Blk} {vs : List Value} (r : Rel Γ gt ρ B G st as vss w) (h : zqb ag cts n ss st.heap = some (fr, es, hp'))
  (hs : RepCs Γ ρ st.heap as (zau w G) (fresh w G B) ss vs), ∃ G', Later Γ gt ρ B G st as vss w hp' G' ∧ es.length = n ∧ RowT (pick (zau w G') (fresh w G' B) fr) ag cts (es.map (·.den Γ ρ)) vs
 | 0, [], st, G, fr, es, hp', vs, r, h, hs => by
  simp only [zqb, Option.some.injEq, Prod.mk.injEq] at h
  obtain ⟨rfl, rfl, rfl⟩ := h
  have : vs = [] := List.eq_nil_of_length_eq_zero hs.1.symm
  subst this
  exact ⟨G, .refl r, rfl, RowT.nil⟩
 | 0, _ :: _, st, G, fr, es, hp', vs, r, h, hs => by simp [zqb] at h
 | n + 1, ss, st, G, fr, es, hp', vs, r, h, hs => by
  simp only [zqb] at h
  split at h
  ·rename_i fr1 es1 hp1 h1
   split at h
   ·rename_i e fr2 l hp2 h2 h3
    simp only [Option.some.injEq, Prod.mk.injEq] at h
    obtain ⟨rfl, rfl, rfl⟩ := h
    obtain ⟨G1, l1, a1, a2, a3⟩ := zmq r h1 (hs.take cts.length)
    have hc := zxd h2 a1 a2 a3
    have hrest : RepCs Γ ρ hp1 as (zau w G1) (fresh w G1 B) (ss.drop cts.length) (vs.drop cts.length) := RepCs.later l1 (hs.drop cts.length)
    obtain ⟨G2, l2, b1, b2⟩ := zwv l1.rel h3 hrest
    have hpa := zw9 (zw3 w G2 B) fr1 fr2
    refine ⟨G2, l1.trans l2, by simp [b1], ?_⟩
    have hh := RowT.cons ((hc.mono (zoq l2.m l2.mf _)).mono hpa.1) (b2.mono hpa.2)
    rw [List.take_append_drop] at hh
    exact hh
   ·cases h
  ·cases h
def z77 (z : List SC) (n : Nat) : List SC := (List.range n).map fun j => z.getD (j % z.length) .undef
def zyx (P : Program) (gt : GT) (st : SS) (t : TypeId) (len : Nat) (parts : List (Nat × Operand)) : Option Out := match P.underlying t with
 | some (.slice e) => match shapeP P 12 e, zeroP P e with
  | some (ag, cts), some z => if sizeB P e cts.length && Nat.beq z.length cts.length && Nat.ble (len * cts.length) 16777216 && Nat.blt 0 cts.length then (match z39 gt st parts with
   | some l => match sFill (fun i => some (i * cts.length, cts.length)) (z77 z (len * cts.length)) l with
    | some cells => if arrB ag cts (len * cts.length) cells then some ⟨[], .sc (.arr st.heap.length 0 len), st.heap ++ [boxB e cells], false⟩ else match zqb ag cts len cells st.heap with
     | some (fr, es, hp) => some (newRow st [] hp fr e ag cts (es.foldr .cons .nil))
     | none => none
    | none => none
   | none => none) else none
  | _, _ => none
 | _ => none
theorem z4o {a : Act} (r : Rel Γ gt ρ B G st as (a.tmps :: vss) w) {t : TypeId} {len : Nat} {parts : Array (Nat × Operand)} {out : Out} (h : zyx P gt st t len parts.toList = some out) :
  Done P Γ gt ρ B st (a.tmps :: vss) w out ((Instr.buildSlice t len (parts.map fun (i, x) => (i, a.eval x))).run P w) := by
 unfold zyx at h
 split at h
 ·rename_i e hu
  split at h
  ·rename_i ag cts z hsh hz
   split at h
   ·rename_i hcond
    simp only [Bool.and_eq_true, Nat.beq_eq, Nat.ble_eq, Nat.blt_eq] at hcond
    obtain ⟨⟨⟨hsz, hzl⟩, h24⟩, hpos⟩ := hcond
    have hsz := zo7 hsz
    split at h
    ·rename_i l hl
     split at h
     ·rename_i cells hf
      have key : ∃ res : Array Value, RepCs Γ ρ st.heap as (zau w G) (fresh w G B) cells res.toList ∧ (res.size = len * cts.length → (Instr.buildSlice t len (parts.map fun (i, x) => (i, a.eval x))).run P w = .ok (.slice (some ⟨w.heap.size, 0, none⟩) len len) (w.alloc (.cells res e))) := by
       unfold zeroP at hz
       cases hi : P.info? e with
       | none => rw [hi] at hz; cases hz
       | some it =>
        rw [hi] at hz
        simp only [Option.bind_some] at hz
        cases hz0 : it.zero with
        | none => rw [hz0] at hz; cases hz
        | some zv =>
         rw [hz0] at hz
         simp only [Option.map_some, Option.some.injEq] at hz
         have hzsz : zv.cells.size = cts.length := by rw [← hzl, ← hz]; simp
         have hz0rep : RepCs Γ ρ st.heap as (zau w G) (fresh w G B) (z77 z (len * cts.length)) ((Array.range (len * cts.length)).map (zv.cells[· % zv.cells.size]!)).toList := by
          refine ⟨by simp [z77], fun i x y hx hy => ?_⟩
          by_cases hil : i < len * cts.length
          ·have hmod : i % cts.length < zv.cells.size := by rw [hzsz]; exact Nat.mod_lt _ hpos
           simp only [z77, List.getElem?_map, List.getElem?_range hil, Option.map_some, Option.some.injEq] at hx
           have hy' : zv.cells[i % cts.length]'hmod = y := by
            have hz' : (Array.range (len * cts.length)).map (zv.cells[· % zv.cells.size]!) = (Array.range (len * cts.length)).map (fun j => zv.cells[j % zv.cells.size]!) := rfl
            rw [hz', Array.toList_map, List.getElem?_map] at hy
            have hr' : (Array.range (len * cts.length)).toList[i]? = some i := by simp [hil]
            rw [hr'] at hy
            simp only [Option.map_some, Option.some.injEq] at hy
            rw [← hy, hzsz]
            exact (getElem!_pos zv.cells _ hmod).symm
           rw [← hx, ← hz]
           have hlz : (zv.cells.toList.map zyy).length = cts.length := by simp [hzsz]
           rw [hlz, List.getD_eq_getElem?_getD, List.getElem?_map]
           have : zv.cells.toList[i % cts.length]? = some (zv.cells[i % cts.length]'hmod) := by simp [hmod]
           rw [this, ← hy']
           exact zpb _ _ _ _ _
          ·rw [List.getElem?_eq_none (by simp [z77]; omega)] at hx
           cases hx
         have hp' := zzt r hl
         obtain ⟨res, k1, k2⟩ := z0u (place := fun i => some (i * cts.length, cts.length)) hf (vals := (parts.map fun (i, x) => (i, a.eval x)).toList) (by rw [Array.toList_map]; exact hp') hz0rep
         refine ⟨res, k2, fun hxs => ?_⟩
         have hrun : (Instr.buildSlice t len (parts.map fun (i, x) => (i, a.eval x))).run P w = .ok (.slice (some ⟨w.heap.size, 0, none⟩) len len) (w.alloc (.cells res e)) := by
          by_cases h0 : len * cts.length = 0
          ·have hlen0 : len = 0 := by
            rcases Nat.mul_eq_zero.1 h0 with h | h
            ·exact h
            ·omega
           have k1' : Instr.fill (fun i => some (i * cts.length, cts.length)) ((Array.range (len * cts.length)).map ((#[] : Array Value)[· % (#[] : Array Value).size]!)) (parts.map fun (i, x) => (i, a.eval x)).toList = some res := by
            have e0 : ∀ f : Nat → Value, (Array.range (len * cts.length)).map f = #[] := fun f => by rw [h0]; simp
            rw [e0] at k1 ⊢
            exact k1
           simp only [Instr.buildSlice, Sem.run_bind, run_underlying hu, Result.andThen_ok, zgn hsz, if_neg (show ¬ len * cts.length > 2 ^ 24 by omega), if_pos h0, Sem.run_pure, k1', Go.newRow, run_newObj]
           rfl
          ·have hzv : (zeroValue e).run P w = .ok zv w := by simp [zeroValue, typeInfo, hi, hz0]
           simp only [Instr.buildSlice, Sem.run_bind, run_underlying hu, Result.andThen_ok, zgn hsz, if_neg (show ¬ len * cts.length > 2 ^ 24 by omega), if_neg h0, Sem.run_pure, hzv, k1, Go.newRow, run_newObj]
           rfl
         exact hrun
      obtain ⟨res, k2, hrun⟩ := key
      split at h
      ·rename_i harr
       simp only [Option.some.injEq] at h
       subst h
       unfold arrB at harr
       simp only [Bool.and_eq_true, Nat.beq_eq] at harr
       rw [hrun (by rw [← Array.length_toList, ← k2.1]; exact harr.1.1.2)]
       exact done_arr r e len k2
      ·split at h
       ·rename_i fr es hp hrr
        simp only [Option.some.injEq] at h
        subst h
        obtain ⟨G', lt, b1, b2⟩ := zwv r hrr k2
        have hden : ((es.foldr E.cons .nil).den Γ ρ).asList = es.map (·.den Γ ρ) := zvv es
        have hxs : res.size = len * cts.length := by have := b2.1; simp [b1] at this; exact this
        rw [hrun hxs]
        refine done_row (P := P) (xs := res.toList) r lt rfl rfl rfl rfl (by rw [hden]; simp [b1]) (by rw [hden]; exact b2) (Nat.le_refl _) ?_ hxs ?_
        ·have := Nat.le_mul_of_pos_right len hpos
         unfold maxLen; omega
        ·rw [List.take_of_length_le (by simp [hxs])]
       ·cases h
     ·cases h
    ·cases h
   ·cases h
  ·cases h
 ·cases h
end
end Go.Proofs.YtlhagkbhojmjpaaGreatDoor
namespace Go.Proofs.YtlhagkbhojmjpaaGreatDoor
open Go.RowKit
section
variable {Γ : CEnv} {gt : GT} {ρ : List TV} {B : Nat} {G : Nat → Prop} {st : SS} {as : List Value} {vss : List (Array Value)} {w : World} {P : Program}
theorem zcm {α : Type} {l : List α} {i : Nat} {x y : α} (h : l[i]? = some y) : (l.set i x)[i]? = some x := by
 rw [List.getElem?_set, if_pos rfl, if_pos (List.getElem?_eq_some_iff.1 h).1]
theorem zgl {α : Type} {l : List α} {i j : Nat} {x : α} (h : j ≠ i) : (l.set i x)[j]? = l[j]? := by
 rw [List.getElem?_set, if_neg (fun e => h e.symm)]
theorem Rel.turn (r : Rel Γ gt ρ B G st as vss w) {b : Nat} {blk blk' : Blk} {va va' : Value} (hb : st.heap[b]? = some blk) (hva : as[b]? = some va) (hl : blk.live = true) (hl' : blk'.live = true) {w' : World}
  (hver : blk.ver ≤ blk'.ver) (hsame : blk'.ver = blk.ver → va' = va ∧ blk'.size = blk.size ∧ blk'.len Γ ρ = blk.len Γ ρ ∧ ∀ e, blk.cont = .row e → ∃ e', blk'.cont = .row e')
  (hsz : w.heap.size ≤ w'.heap.size) (hw : ∀ k, k < w.heap.size → gOf va ≠ some k → w'.heap[k]? = w.heap[k]?) (hg : ∀ g, gOf va' = some g → B ≤ g ∧ g < w'.heap.size ∧ (gOf va = some g ∨ w.heap.size ≤ g))
  (hblk : ∀ (G' : Nat → Prop) (hp' : List Blk) (as' : List Value), Tr Γ ρ st.heap as hp' as' → Mem.le (zau w G) (zau w' G') → Mem.le (fresh w G B) (fresh w' G' B) → BlkRel Γ ρ hp' as' (zau w' G') (fresh w' G' B) B w' blk' va') :
  Rel Γ gt ρ B (fun g => (G g ∧ gOf va ≠ some g) ∨ gOf va' = some g) { st with heap := st.heap.set b blk' } (as.set b va') vss w' := by
 have hbl := (List.getElem?_eq_some_iff.1 hb).1
 have hGva : ∀ g, gOf va = some g → G g := fun g h => r.own b blk va g hb hva hl h
 have key : ∀ g o, w.heap[g]? = some o → ¬ G g → w'.heap[g]? = some o ∧ ¬ ((G g ∧ gOf va ≠ some g) ∨ gOf va' = some g) := by
  intro g o h1 h2
  have hlt := (Array.getElem?_eq_some_iff.1 h1).1
  have hne : gOf va ≠ some g := fun e => h2 (hGva g e)
  refine ⟨by rw [hw g hlt hne]; exact h1, fun h => ?_⟩
  rcases h with h | h
  ·exact h2 h.1
  ·rcases (hg g h).2.2 with h3 | h3
   ·exact hne h3
   ·omega
 have hm : Mem.le (zau w G) (zau w' fun g => (G g ∧ gOf va ≠ some g) ∨ gOf va' = some g) := fun g o h => key g o h.1 h.2
 have hmf : Mem.le (fresh w G B) (fresh w' (fun g => (G g ∧ gOf va ≠ some g) ∨ gOf va' = some g) B) := fun g o h => let ⟨a, c⟩ := key g o h.1 h.2.1; ⟨a, c, h.2.2⟩
 have tr : Tr Γ ρ st.heap as (st.heap.set b blk') (as.set b va') := ⟨fun b' k v h1 h2 => by
  by_cases e : b' = b
  ·subst e
   rw [hb] at h1
   injection h1 with h1
   rw [hva] at h2
   injection h2 with h2
   subst h1 h2
   exact ⟨blk', va', zcm hb, zcm hva, hver, hsame⟩
  ·exact ⟨k, v, by rw [zgl e]; exact h1, by rw [zgl e]; exact h2, Nat.le_refl _, fun _ => ⟨rfl, rfl, rfl, fun e h => ⟨e, h⟩⟩⟩⟩
 refine r.step _ tr hm hmf (by simp [r.alen]) ?_ ?_ ?_ (Nat.le_trans r.base hsz) ?_
 ·intro b' k v h1 h2
  rcases zc4 h1 with ⟨e, e1⟩ | ⟨hne, h1⟩
  ·subst e
   rcases zc4 h2 with ⟨_, e2⟩ | ⟨h, _⟩
   ·subst e1 e2; exact hblk _ _ _ tr hm hmf
   ·exact absurd rfl h
  ·rcases zc4 h2 with ⟨h, _⟩ | ⟨_, h2⟩
   ·exact absurd h hne
   ·refine BlkRel.tr tr hm hmf (r.blks b' k v h1 h2) fun hlv g hg' => ?_
    have hgs := r.gs g (r.own b' k v g h1 h2 hlv hg')
    exact hw g hgs.2 fun h => hne (r.dist b' b k blk v va g h1 h2 hlv hg' hb hva hl h)
 ·intro b' k v g h1 h2 hlv hg'
  rcases zc4 h1 with ⟨e, e1⟩ | ⟨hne, h1⟩
  ·subst e
   rcases zc4 h2 with ⟨_, e2⟩ | ⟨h, _⟩
   ·subst e2; exact .inr hg'
   ·exact absurd rfl h
  ·rcases zc4 h2 with ⟨h, _⟩ | ⟨_, h2⟩
   ·exact absurd h hne
   ·exact .inl ⟨r.own b' k v g h1 h2 hlv hg', fun h => hne (r.dist b' b k blk v va g h1 h2 hlv hg' hb hva hl h)⟩
 ·intro b1 b2 k1 k2 v1 v2 g h1 h2 hl1 hg1 h3 h4 hl2 hg2
  rcases zc4 h1 with ⟨e1, f1⟩ | ⟨n1, q1⟩ <;> rcases zc4 h3 with ⟨e3, f3⟩ | ⟨n3, q3⟩
  ·rw [e1, e3]
  ·exfalso
   rcases zc4 h2 with ⟨_, e2⟩ | ⟨h, _⟩
   ·rcases zc4 h4 with ⟨h, _⟩ | ⟨_, q4⟩
    ·exact n3 h
    ·rw [e2] at hg1
     rcases (hg g hg1).2.2 with h5 | h5
     ·exact n3 (r.dist b2 b k2 blk v2 va g q3 q4 hl2 hg2 hb hva hl h5)
     ·have := (r.gs g (r.own b2 k2 v2 g q3 q4 hl2 hg2)).2; omega
   ·exact h e1
  ·exfalso
   rcases zc4 h4 with ⟨_, e2⟩ | ⟨h, _⟩
   ·rcases zc4 h2 with ⟨h, _⟩ | ⟨_, q2⟩
    ·exact n1 h
    ·rw [e2] at hg2
     rcases (hg g hg2).2.2 with h5 | h5
     ·exact n1 (r.dist b1 b k1 blk v1 va g q1 q2 hl1 hg1 hb hva hl h5)
     ·have := (r.gs g (r.own b1 k1 v1 g q1 q2 hl1 hg1)).2; omega
   ·exact h e3
  ·rcases zc4 h2 with ⟨h, _⟩ | ⟨_, q2⟩
   ·exact absurd h n1
   ·rcases zc4 h4 with ⟨h, _⟩ | ⟨_, q4⟩
    ·exact absurd h n3
    ·exact r.dist b1 b2 k1 k2 v1 v2 g q1 q2 hl1 hg1 q3 q4 hl2 hg2
 ·intro g h
  rcases h with h | h
  ·have := r.gs g h.1; omega
  ·have := hg g h; omega
theorem all_one {hp : List Blk} {as : List Value} {M Mf : Mem} {cs : List SC} {vs : List Value} (h : RepCs Γ ρ hp as M Mf cs vs) (ho : cs.all SC.one = true) : ∀ v ∈ vs, v.oneCell' = true := by
 intro v hv
 obtain ⟨i, hi, rfl⟩ := List.mem_iff_getElem.1 hv
 obtain ⟨s, h1, h2⟩ := h.getr (List.getElem?_eq_getElem hi)
 exact RepC.one h2 (List.all_eq_true.1 ho s (List.mem_of_getElem? h1))
theorem RowT.set {M : Mem} {ag : Bool} {cs : List CT} {ts : List TV} {xs : List Value} {t : TV} {vs : List Value} (h : RowT M ag cs ts xs) (k : CellsT M ag cs t vs) {i : Nat} (hi : i < ts.length) :
  RowT M ag cs (ts.set i t) (xs.take (i * cs.length) ++ (vs ++ xs.drop (i * cs.length + vs.length))) := by
 have hb : i * cs.length + cs.length ≤ ts.length * cs.length := by have := Nat.mul_le_mul_right cs.length hi; rw [Nat.succ_mul] at this; exact this
 refine ⟨by simp only [List.length_append, List.length_take, List.length_drop, List.length_set, h.1, k.1]; omega, fun j hj c hc => ?_⟩
 rw [List.length_set] at hj
 have hlt := zyd hj hc
 have hl1 : (xs.take (i * cs.length)).length = i * cs.length := by rw [List.length_take, h.1]; omega
 by_cases hij : j = i
 ·subst hij
  obtain ⟨v, h1, h2⟩ := k.2 c hc
  refine ⟨v, ?_, by rw [List.getElem_set_self]; exact h2⟩
  rw [List.getElem?_append_right (by omega), hl1, List.getElem?_append_left (by rw [k.1]; omega), show j * cs.length + c - j * cs.length = c by omega]
  exact h1
 ·obtain ⟨v, h1, h2⟩ := h.2 j hj c hc
  refine ⟨v, ?_, by rw [List.getElem_set_ne (fun e => hij e.symm)]; exact h2⟩
  rcases Nat.lt_or_gt_of_ne hij with hlt' | hgt
  ·have := zyd hlt' hc
   rw [List.getElem?_append_left (by omega), List.getElem?_take, if_pos this]
   exact h1
  ·have hb2 : i * cs.length + cs.length ≤ j * cs.length := by have := Nat.mul_le_mul_right cs.length hgt; rw [Nat.succ_mul] at this; exact this
   rw [List.getElem?_append_right (by omega), hl1, List.getElem?_append_right (by rw [k.1]; omega), List.getElem?_drop, k.1, show i * cs.length + cs.length + (j * cs.length + c - i * cs.length - cs.length) = j * cs.length + c by omega]
   exact h1
theorem RowT.setc {M : Mem} {cs : List CT} {ts : List TV} {xs : List Value} {y : TV} {u : Value} (h : RowT M true cs ts xs) {i c : Nat} (hi : i < ts.length) (hc : c < cs.length) (k : RepT M cs[c] y u) :
  RowT M true cs (ts.set i (.agg ((List.range cs.length).map fun j => if j = c then y else ts[i].cell j))) (xs.set (i * cs.length + c) u) := by
 have hlt0 := zyd hi hc
 refine ⟨by simp [h.1], fun j hj d hd => ?_⟩
 rw [List.length_set] at hj
 have hlt := zyd hj hd
 obtain ⟨v, h1, h2⟩ := h.2 j hj d hd
 by_cases hij : j = i
 ·subst hij
  have hcell : zbk true (TV.agg ((List.range cs.length).map fun k => if k = c then y else ts[j].cell k)) d = if d = c then y else ts[j].cell d := by
   simp only [zbk, if_true, TV.cell, zae, List.getD_eq_getElem?_getD, List.getElem?_map, List.getElem?_range hd, Option.map_some, Option.getD_some]
  by_cases hdc : d = c
  ·subst hdc
   refine ⟨u, zcm h1, ?_⟩
   rw [List.getElem_set_self, hcell, if_pos rfl]
   exact k
  ·refine ⟨v, by rw [zgl (by omega)]; exact h1, ?_⟩
   rw [List.getElem_set_self, hcell, if_neg hdc]
   exact h2
 ·refine ⟨v, ?_, by rw [List.getElem_set_ne (fun e => hij e.symm)]; exact h2⟩
  rw [zgl]
  ·exact h1
  ·intro e
   rcases Nat.lt_or_gt_of_ne hij with hlt' | hgt
   ·have hb2 : j * cs.length + cs.length ≤ i * cs.length := by have := Nat.mul_le_mul_right cs.length hlt'; rw [Nat.succ_mul] at this; exact this
    omega
   ·have hb2 : i * cs.length + cs.length ≤ j * cs.length := by have := Nat.mul_le_mul_right cs.length hgt; rw [Nat.succ_mul] at this; exact this
    omega
def z62 (hp : List Blk) (b ver : Nat) (ag : Bool) (cs : List CT) (fr : Bool) (f : E → E) : Option Out := match hp[b]? with
 | some blk => match blk.cont with
  | .row e => if blk.own && Nat.beq blk.ver ver && (blk.ag == ag) && ctsEq blk.cs cs then some ⟨[], .sc .undef, hp.set b { blk with cont := .row (f e), fr := blk.fr && fr }, true⟩ else none
  | _ => none
 | none => none
def sStore (P : Program) (st : SS) (t : TypeId) (p : SC) (x : SV) : Option Out := match p, x.cells with
 | .ptr b ver i c, some cells => if sizeB P t cells.length && cells.all SC.one then (match st.heap[b]? with
  | some blk => if Nat.beq blk.ver ver then (match blk.cont with
   | .box cs => if Nat.ble (c + cells.length) cs.length then some ⟨[], .sc .undef, st.heap.set b { blk with cont := .box (zzn cs cells c) }, true⟩ else none
   | .row _ => if Nat.beq c 0 && Nat.beq cells.length blk.cs.length then (match zte st.heap blk.cs cells with
     | some (fr, es, hp) => match zmn blk.ag es with
      | some y => z62 hp b ver blk.ag blk.cs fr fun e => .o3 .set e i y
      | none => none
     | none => none)
    else if blk.ag then (match blk.cs[c]?, cells with
     | some ct, [s] => match reify st.heap ct s with
      | some (fr, y, hp) => z62 hp b ver true blk.cs fr fun e => .o3 .set e i (.o2 (.setc c blk.cs.length) (.o2 .idx e i) y)
      | none => none
     | _, _ => none)
    else none
   | .dead => none) else none
  | none => none) else none
 | _, _ => none
theorem z44 {t : TypeId} {g o : Nat} {v : Value} {cur : Array Value} {e : TypeId} (hs : sizeP P t = some v.cells.size) (hg : w.heap[g]? = some (.cells cur e (0, 0))) (hfit : o + v.cells.size ≤ cur.size) (h1 : ∀ u ∈ v.cells.toList, u.oneCell' = true) :
  (Instr.storeAt t (.pointer (some ⟨g, o, none⟩)) v).run P w = .ok () (w.setRow g (cur.toList.take o ++ (v.cells.toList ++ cur.toList.drop (o + v.cells.size))).toArray) := by
 have h := run_storeCells_at (P := P) g o e v.cells.toList 0 cur w hg (by simpa using hfit) h1
 simp only [Nat.add_zero, Array.length_toList, List.append_assoc] at h
 simp only [Instr.storeAt, Instr.sureAddr, storeVar, Sem.run_bind, Sem.run_pure, Result.andThen_ok, zgn hs, ne_eq, not_true_eq_false, if_false, h]
theorem qbf {α : Type} {l : List α} {i : Nat} {x : α} (h : l[i]? = some x) : l.set i x = l := by
 apply List.ext_getElem?
 intro j
 by_cases e : j = i
 ·subst e; rw [zcm h, h]
 ·rw [zgl e]
def DoneU (P : Program) (Γ : CEnv) (gt : GT) (ρ : List TV) (B : Nat) (st : SS) (vss : List (Array Value)) (w : World) (out : Out) (res : Result Unit) : Prop :=
 ∃ as' G' w', res = .ok () w' ∧ Rel Γ gt ρ B G' { st with heap := out.heap } as' vss w' ∧ out.val = .sc .undef ∧ Below B w w' ∧ out.wr = true
theorem z5g (hB : B ≤ w.heap.size) {g : Nat} (hg : B ≤ g) (cs : Array Value) : Below B w (w.setRow g cs) :=
 ⟨rfl, rfl, rfl, by simp, fun k hk => setRow_other w g k cs (by omega)⟩
theorem splice_take {α : Type} (l v : List α) (o m : Nat) (h1 : o + v.length ≤ m) (h2 : m ≤ l.length) : (l.take o ++ (v ++ l.drop (o + v.length))).take m = (l.take m).take o ++ (v ++ (l.take m).drop (o + v.length)) := by
 have e1 : (l.take o).length = o := by rw [List.length_take]; omega
 rw [List.take_append, List.take_append, e1, List.take_of_length_le (l := l.take o) (by omega), List.take_of_length_le (l := v) (by omega), List.take_take, Nat.min_eq_left (by omega), List.drop_take, show m - o - v.length = m - (o + v.length) by omega]
theorem BlkRel.ownRow {hp : List Blk} {as : List Value} {M Mf : Mem} {blk : Blk} {va : Value} {e : E} (hc : blk.cont = .row e) (ho : blk.own = true)
  (h : ∃ xs, w.ownsRow B blk.ety blk.cs.length va (e.den Γ ρ).asList.length xs ∧ RowT (pick M Mf blk.fr) blk.ag blk.cs (e.den Γ ρ).asList xs) : BlkRel Γ ρ hp as M Mf B w blk va := by
 unfold BlkRel
 rw [hc]
 dsimp only
 rw [if_pos ho]
 exact h
theorem store_row (r : Rel Γ gt ρ B G st as vss w) {b ver : Nat} {ag fr : Bool} {cs : List CT} {f : E → E} {out : Out} (h : z62 st.heap b ver ag cs fr f = some out) {i : E} {c : Nat} {v x : Value} (hp : RepPtr Γ ρ st.heap as b ver (i.den Γ ρ).asInt c v) {t : TypeId}
  (hs : sizeP P t = some x.cells.size) (h1 : ∀ u ∈ x.cells.toList, u.oneCell' = true) (hfit : c + x.cells.size ≤ cs.length)
  (hlen : ∀ e, ((f e).den Γ ρ).asList.length = (e.den Γ ρ).asList.length)
  (hrow : ∀ (e : E) (fr0 : Bool) (xs : List Value) (hi : (i.den Γ ρ).asInt.toNat < (e.den Γ ρ).asList.length), 0 ≤ (i.den Γ ρ).asInt → RowT (pick (zau w G) (fresh w G B) (fr0 && fr)) ag cs (e.den Γ ρ).asList xs →
   RowT (pick (zau w G) (fresh w G B) (fr0 && fr)) ag cs ((f e).den Γ ρ).asList (xs.take ((i.den Γ ρ).asInt.toNat * cs.length + c) ++ (x.cells.toList ++ xs.drop ((i.den Γ ρ).asInt.toNat * cs.length + c + x.cells.size)))) :
  DoneU P Γ gt ρ B st vss w out ((Instr.storeAt t v x).run P w) := by
 unfold z62 at h
 split at h
 ·rename_i blk hb
  split at h
  ·rename_i e hc
   split at h
   ·rename_i hcond
    simp only [Bool.and_eq_true, beq_iff_eq] at hcond
    obtain ⟨⟨⟨ho, hv⟩, hag⟩, hcs⟩ := hcond
    have hcs := zh8 hcs
    subst hag hcs
    simp only [Option.some.injEq] at h
    subst h
    obtain ⟨blk0, va, g1, g2, g3, g4⟩ := hp
    rw [hb] at g1
    injection g1 with g1
    subst g1
    obtain ⟨n, g, k1, k2, k3, k4, k5⟩ := g4 (Nat.eq_of_beq_eq_true hv)
    simp only [Blk.len, hc, Option.some.injEq] at k1
    simp only [Blk.size, hc] at k5
    subst k1
    have hbr := r.blks b blk va hb g2
    unfold BlkRel at hbr
    rw [hc] at hbr
    dsimp only at hbr
    rw [if_pos ho] at hbr
    obtain ⟨xs, hown, hrt⟩ := hbr
    rcases hown.2 with ⟨e0, _⟩ | ⟨g', cap, cur, e0, hB, hg, hle, hmax, hsz, htk⟩
    ·rw [e0] at k4; cases k4
    ·rw [e0] at k4
     injection k4 with k4
     simp only at k4
     subst k4
     have hi : (i.den Γ ρ).asInt.toNat < (e.den Γ ρ).asList.length := by omega
     have hlt : (i.den Γ ρ).asInt.toNat * blk.cs.length + blk.cs.length ≤ (e.den Γ ρ).asList.length * blk.cs.length := by have := Nat.mul_le_mul_right blk.cs.length hi; rw [Nat.succ_mul] at this; exact this
     have hcap : (e.den Γ ρ).asList.length * blk.cs.length ≤ cur.size := by rw [hsz]; exact Nat.mul_le_mul_right _ hle
     have hrun := z44 (P := P) (w := w) (o := (i.den Γ ρ).asInt.toNat * blk.cs.length + c) hs hg (by omega) h1
     rw [k5]
     have hlive : blk.live = true := by simp [Blk.live, hc, ho]
     have hgB : B ≤ g' ∧ g' < w.heap.size := ⟨hB, (Array.getElem?_eq_some_iff.1 hg).1⟩
     have hturn := r.turn (b := b) (blk := blk) (blk' := { blk with cont := .row (f e), fr := blk.fr && fr }) (va := va) (va' := va) hb g2 hlive (by simp [Blk.live, ho]) (w' := w.setRow g' (cur.toList.take ((i.den Γ ρ).asInt.toNat * blk.cs.length + c) ++ (x.cells.toList ++ cur.toList.drop ((i.den Γ ρ).asInt.toNat * blk.cs.length + c + x.cells.size))).toArray)
      (Nat.le_refl _) (fun _ => ⟨rfl, by simp only [Blk.size, hc], by simp only [Blk.len, hc, hlen], fun e h => ⟨_, rfl⟩⟩) (by simp) (fun k hk hne => setRow_other w g' k _ (fun e => by rw [e0] at hne; exact hne (by rw [e]; rfl)))
      (fun g hg' => by rw [e0] at hg'; injection hg' with hg'; simp only at hg'; subst hg'; exact ⟨hB, by simpa using hgB.2, .inl (by rw [e0]; rfl)⟩) ?_
     ·rw [qbf g2] at hturn
      exact ⟨_, _, _, hrun, hturn, rfl, z5g r.base hB _, rfl⟩
     ·intro G' hp' as' tr hm hmf
      have hpa : Mem.le (pick (zau w G) (fresh w G B) blk.fr) (pick (zau w G) (fresh w G B) (blk.fr && fr)) := (zw9 (zw3 w G B) blk.fr fr).1
      have hnew := hrow e blk.fr xs hi k2 (hrt.mono hpa)
      refine BlkRel.ownRow rfl ho ⟨xs.take ((i.den Γ ρ).asInt.toNat * blk.cs.length + c) ++ (x.cells.toList ++ xs.drop ((i.den Γ ρ).asInt.toNat * blk.cs.length + c + x.cells.size)), ⟨?_, .inr ⟨g', cap, _, ?_, hB, setRow_heap w g' cur _ blk.ety (0, 0) hg, by rw [hlen]; exact hle, hmax, ?_, ?_⟩⟩, hnew.mono (zoq hm hmf _)⟩
      ·exact hnew.1
      ·rw [hlen]; exact e0
      ·simp only [List.size_toArray, List.length_append, List.length_take, List.length_drop, Array.length_toList]
       omega
      ·rw [hlen, ← htk]
       have := splice_take cur.toList x.cells.toList ((i.den Γ ρ).asInt.toNat * blk.cs.length + c) ((e.den Γ ρ).asList.length * blk.cs.length) (by simp; omega) (by simp; omega)
       simp only [Array.length_toList] at this
       exact this
   ·cases h
  ·cases h
 ·cases h
theorem sSplice_length {cells v : List SC} {off : Nat} (h : off + v.length ≤ cells.length) : (zzn cells v off).length = cells.length := by
 unfold zzn
 simp only [List.length_append, List.length_take, List.length_drop]
 omega
theorem store_box (r : Rel Γ gt ρ B G st as vss w) {b ver : Nat} {i : E} {c : Nat} {v x : Value} (hp : RepPtr Γ ρ st.heap as b ver (i.den Γ ρ).asInt c v) {t : TypeId} {blk : Blk} {cs cells : List SC} (hb : st.heap[b]? = some blk) (hv : blk.ver = ver) (hc : blk.cont = .box cs)
  (hs : sizeP P t = some x.cells.size) (h1 : ∀ u ∈ x.cells.toList, u.oneCell' = true) (hfit : c + cells.length ≤ cs.length) (hx : RepCs Γ ρ st.heap as (zau w G) (fresh w G B) cells x.cells.toList) :
  DoneU P Γ gt ρ B st vss w ⟨[], .sc .undef, st.heap.set b { blk with cont := .box (zzn cs cells c) }, true⟩ ((Instr.storeAt t v x).run P w) := by
 obtain ⟨blk0, va, g1, g2, g3, g4⟩ := hp
 rw [hb] at g1
 injection g1 with g1
 subst g1
 obtain ⟨n, g, k1, k2, k3, k4, k5⟩ := g4 hv
 simp only [Blk.len, hc, Option.some.injEq] at k1
 simp only [Blk.size, hc] at k5
 subst k1
 have hi0 : (i.den Γ ρ).asInt.toNat = 0 := by omega
 rw [hi0, Nat.zero_mul, Nat.zero_add] at k5
 have hbr := r.blks b blk va hb g2
 unfold BlkRel at hbr
 rw [hc] at hbr
 dsimp only at hbr
 obtain ⟨g', cur, e0, hB, hg, hcs⟩ := hbr
 rw [e0] at k4
 injection k4 with k4
 simp only at k4
 subst k4
 have hlc : cur.size = cs.length := by have := hcs.1; simp at this; omega
 have hlx : x.cells.size = cells.length := by have := hx.1; simp at this; omega
 have hrun := z44 (P := P) (w := w) (o := c) hs hg (by omega) h1
 rw [k5]
 have hlive : blk.live = true := by simp [Blk.live, hc]
 have hturn := r.turn (b := b) (blk := blk) (blk' := { blk with cont := .box (zzn cs cells c) }) (va := va) (va' := va) hb g2 hlive rfl (w' := w.setRow g' (cur.toList.take c ++ (x.cells.toList ++ cur.toList.drop (c + x.cells.size))).toArray)
  (Nat.le_refl _) (fun _ => ⟨rfl, by simp only [Blk.size, hc, sSplice_length hfit], by simp only [Blk.len, hc], fun e h => by rw [hc] at h; cases h⟩) (by simp) (fun k hk hne => setRow_other w g' k _ (fun e => by rw [e0] at hne; exact hne (by rw [e]; rfl)))
  (fun g hg' => by rw [e0] at hg'; injection hg' with hg'; simp only at hg'; subst hg'; exact ⟨hB, by simpa using (Array.getElem?_eq_some_iff.1 hg).1, .inl (by rw [e0]; rfl)⟩) ?_
 ·rw [qbf g2] at hturn
  exact ⟨_, _, _, hrun, hturn, rfl, z5g r.base hB _, rfl⟩
 ·intro G' hp' as' tr hm hmf
  refine ⟨g', _, e0, hB, setRow_heap w g' cur _ blk.ety (0, 0) hg, ?_⟩
  simp only [zzn]
  have := (hcs.take c).append (hx.append (hcs.drop (c + cells.length)))
  rw [← hlx] at this
  have h9 := RepCs.tr tr hm hmf this
  rw [← hlx]
  exact h9
theorem sStore_sound (r : Rel Γ gt ρ B G st as vss w) {t : TypeId} {p : SC} {x : SV} {out : Out} {v u : Value} (h : sStore P st t p x = some out) (hp : RepC Γ ρ st.heap as (zau w G) (fresh w G B) p v) (hx : RepV Γ ρ st.heap as (zau w G) (fresh w G B) x u) :
  DoneU P Γ gt ρ B st vss w out ((Instr.storeAt t v u).run P w) := by
 unfold sStore at h
 split at h
 ·rename_i b ver i c cells hcells
  have hcr := qas hcells hx
  have hlen : u.cells.size = cells.length := by have := hcr.1; simp at this; omega
  split at h
  ·rename_i hcond
   simp only [Bool.and_eq_true] at hcond
   have hs : sizeP P t = some u.cells.size := by rw [hlen]; exact zo7 hcond.1
   have h1 := all_one hcr hcond.2
   split at h
   ·rename_i blk hb
    split at h
    ·rename_i hv
     split at h
     ·rename_i cs hc
      split at h
      ·rename_i hfit
       simp only [Option.some.injEq] at h
       subst h
       exact store_box r hp.2 hb (Nat.eq_of_beq_eq_true hv) hc hs h1 (by simpa using hfit) hcr
      ·cases h
     ·rename_i e0 hc
      split at h
      ·rename_i hw
       simp only [Bool.and_eq_true, Nat.beq_eq] at hw
       obtain ⟨rfl, hcl⟩ := hw
       split at h
       ·rename_i fr es hp1 hre
        split at h
        ·rename_i y hy
         obtain ⟨G1, l1, a1, a2, a3⟩ := zmq r hre hcr
         have hcellsT := zxd hy a1 a2 a3
         obtain ⟨as2, G2, w2, b1, b2, b3, b4, b5⟩ := store_row l1.rel h (RepPtr.tr l1.tr hp.2) hs h1 (by omega) (fun e => by simp only [E.den, P3.den, zaa, List.length_set]) (fun e fr0 xs hi h0 hr => by
          have hpa : Mem.le (pick (zau w G1) (fresh w G1 B) fr) (pick (zau w G1) (fresh w G1 B) (fr0 && fr)) := (zw9 (zw3 w G1 B) fr0 fr).2
          have := RowT.set hr (hcellsT.mono hpa) hi
          simp only [E.den, P3.den, zaa, Nat.add_zero]
          rw [Array.length_toList] at this
          exact this)
         exact ⟨as2, G2, w2, b1, b2, b3, b4, b5⟩
        ·cases h
       ·cases h
      ·split at h
       ·rename_i hag
        split at h
        ·rename_i ct s hct _
         split at h
         ·rename_i fr y hp1 hre
          obtain ⟨u0, hu0⟩ : ∃ u0, u.cells.toList = [u0] := by
           have := hcr.1
           cases hl : u.cells.toList with
           | nil => rw [hl] at this; simp at this
           | cons z zs => cases zs with
            | nil => exact ⟨z, rfl⟩
            | cons _ _ => rw [hl] at this; simp at this
          rw [hu0] at hcr
          obtain ⟨G1, l1, a1⟩ := zs7 r hre (hcr.2 0 _ _ rfl rfl)
          have hcl := (List.getElem?_eq_some_iff.1 hct).1
          have hct' : blk.cs[c] = ct := (List.getElem?_eq_some_iff.1 hct).2
          have hus : u.cells.size = 1 := by rw [hlen]; rfl
          obtain ⟨as2, G2, w2, b1, b2, b3, b4, b5⟩ := store_row l1.rel h (RepPtr.tr l1.tr hp.2) hs h1 (by omega) (fun e => by simp only [E.den, P3.den, zaa, List.length_set]) (fun e fr0 xs hi h0 hr => by
           have hpa : Mem.le (pick (zau w G1) (fresh w G1 B) fr) (pick (zau w G1) (fresh w G1 B) (fr0 && fr)) := (zw9 (zw3 w G1 B) fr0 fr).2
           have := RowT.setc (y := y.den Γ ρ) (u := u0) hr hi hcl (by rw [hct']; exact a1.mono hpa)
           have hlt := zyd hi hcl
           have hsp : xs.take ((i.den Γ ρ).asInt.toNat * blk.cs.length + c) ++ (u.cells.toList ++ xs.drop ((i.den Γ ρ).asInt.toNat * blk.cs.length + c + u.cells.size)) = xs.set ((i.den Γ ρ).asInt.toNat * blk.cs.length + c) u0 := by
            rw [hu0, hus, List.set_eq_take_append_cons_drop, if_pos (by rw [hr.1]; exact hlt)]
            rfl
           rw [hsp]
           have hidx : (E.o2 .idx e i).den Γ ρ = (e.den Γ ρ).asList[(i.den Γ ρ).asInt.toNat] := idx_den h0 (by omega)
           simp only [E.den, P3.den, P2.den, zaa] at hidx ⊢
           rw [hidx]
           exact this)
          exact ⟨as2, G2, w2, b1, b2, b3, b4, b5⟩
         ·cases h
        ·cases h
       ·cases h
     ·cases h
    ·cases h
   ·cases h
  ·cases h
 ·cases h
end
end Go.Proofs.YtlhagkbhojmjpaaGreatDoor
namespace Go.Proofs.YtlhagkbhojmjpaaGreatDoor
open Go.RowKit
section
variable {Γ : CEnv} {gt : GT} {ρ : List TV} {B : Nat} {G : Nat → Prop} {st : SS} {as : List Value} {vss : List (Array Value)} {w : World} {P : Program}
theorem z6o (base : Nat) (t ty e : TypeId) (i : TypeInfo) (z : Value) (size bytes : Nat) (ht : P.underlying t = some (.slice e)) (hi : P.info? e = some i) (hz : i.zero = some z)
  (hsize : i.size = size) (hby : i.bytes = bytes) (hzs : z.cells.size = size) (hsz : 0 < size)
  (v : Value) (n : Nat) (xs : List Value) (hown : w.ownsRow base e size v n xs)
  (a : Addr) (m c : Nat) (news : List Value) (hl : news.length = m * size) (hnews : ∀ (j : Nat) (u : Value), news[j]? = some u → w.cell? (a.add j) = some u) (h1 : ∀ u ∈ news, u.oneCell' = true)
  (h63 : n + m ≤ maxLen) (hbytes : (n + m) * bytes ≤ 140737488355328) (hbase : base ≤ w.heap.size) :
  ∃ v' w', (Builtin.append_ #[t, t] ty #[v, .slice (some a) m c]).run P w = .ok v' w' ∧ w'.ownsRow base e size v' (n + m) (xs ++ news) ∧ w.grownBy w' v.ownBlock ∧
   ∀ g, v'.ownBlock = some g → v.ownBlock = some g ∨ w.heap.size ≤ g := by
 obtain ⟨v', w', hr, h2, h3, h4⟩ := run_append_own (P := P) w base t ty e i z size bytes ht hi hz hsize hby hzs hsz v n xs hown a m c news hl hnews h1 h63 hbytes hbase
 refine ⟨v', w', hr, h2, h3, fun g hg => ?_⟩
 subst hsize hby
 have hm64 : n + m ≤ 9223372036854775807 := by unfold maxLen at h63; omega
 rcases hown.2 with ⟨rfl, rfl⟩ | ⟨g', cap, cur, rfl, hbg, hgg, hnc, hcm, hcs, htake⟩
 ·by_cases hm : m = 0
  ·have := h4.2 ⟨rfl, hm⟩
   rw [this] at hg
   cases hg
  ·have hr2 := run_append_nil (P := P) w t ty e i z ht hi hz a m c news hl hnews (by omega) (by omega) (by have hb := hbytes; simp only [Nat.zero_add] at hb; omega)
   rw [hr] at hr2
   injection hr2 with e1 e2
   rw [e1] at hg
   injection hg with hg
   simp only at hg
   exact .inr (by omega)
 ·by_cases hroom : n + m ≤ cap
  ·obtain ⟨w2, hr2, _⟩ := run_append_fits (P := P) w base t ty e i i.size ht hi rfl g' n cap xs hown a m c news hl hnews h1 hroom
   rw [hr] at hr2
   injection hr2 with e1 e2
   rw [e1] at hg
   exact .inl hg
  ·have holds : ∀ (j : Nat) (u : Value), xs[j]? = some u → w.cell? ((⟨g', 0, none⟩ : Addr).add j) = some u := hown.cells (g := g') rfl
   have hr2 := run_append_grow (P := P) w t ty e i z ht hi hz ⟨g', 0, none⟩ n cap xs hown.1 holds a m c news hl hnews (by omega) (by omega) (growslice_fits (by omega) hbytes)
   rw [hr] at hr2
   injection hr2 with e1 e2
   rw [e1] at hg
   injection hg with hg
   simp only at hg
   exact .inr (by omega)
def zll : Int := 1099511627776
def infoB (P : Program) (e : TypeId) (n : Nat) : Bool := match P.info? e with
 | some i => Nat.beq i.size n && Nat.ble i.bytes 128 && Nat.blt 0 n && (match i.zero with
  | some z => Nat.beq z.cells.size n
  | none => false)
 | none => false
theorem infoB_eq {e : TypeId} {n : Nat} (h : infoB P e n = true) : ∃ i z, P.info? e = some i ∧ i.size = n ∧ i.bytes ≤ 128 ∧ 0 < n ∧ i.zero = some z ∧ z.cells.size = n := by
 unfold infoB at h
 split at h
 ·rename_i i hi
  split at h
  ·rename_i z hz
   simp only [Bool.and_eq_true, Nat.beq_eq, Nat.ble_eq, Nat.blt_eq] at h
   exact ⟨i, z, hi, h.1.1.1, h.1.1.2, h.1.2, hz, h.2⟩
  ·simp at h
 ·cases h
def rowF (hp : List Blk) (s : SC) : Option Row := (rowOf hp s).map fun r => { r with fr := r.fr || r.cs.all CT.flat }
theorem RowT.flat {M M' : Mem} {ag : Bool} {cs : List CT} {ts : List TV} {xs : List Value} (hf : cs.all CT.flat = true) (h : RowT M ag cs ts xs) : RowT M' ag cs ts xs :=
 ⟨h.1, fun i hi c hc => let ⟨v, a, b⟩ := h.2 i hi c hc; ⟨v, a, b.flat (List.all_eq_true.1 hf _ (List.getElem_mem hc))⟩⟩
theorem rowF_reads (r : Rel Γ gt ρ B G st as vss w) {s : SC} {row : Row} {v : Value} (h : rowF st.heap s = some row) (hs : RepC Γ ρ st.heap as (zau w G) (fresh w G B) s v) :
  Reads (pick (zau w G) (fresh w G B) row.fr) w row.ag row.cs (row.e.den Γ ρ).asList v := by
 unfold rowF at h
 cases h0 : rowOf st.heap s with
 | none => rw [h0] at h; cases h
 | some r0 =>
  rw [h0] at h
  simp only [Option.map_some, Option.some.injEq] at h
  subst h
  have hr := zgc r h0 hs
  cases hf : r0.cs.all CT.flat with
  | false =>
   simp only [Bool.or_false]
   exact hr
  | true =>
   obtain ⟨a, cap, xs, k1, k2, k3, k4, k5, k6⟩ := hr
   exact ⟨a, cap, xs, k1, k2, k3, k4, k5.flat hf, k6⟩
def sAppend (P : Program) (st : SS) (t t2 : TypeId) (s x : SC) : Option Out := if Nat.beq t t2 then (match P.underlying t with
 | some (.slice e) => match s with
  | .own b ver => match st.heap[b]? with
   | some blk => match blk.cont with
    | .row c => if blk.own && Nat.beq blk.ver ver && Nat.beq blk.ety e && infoB P e blk.cs.length then (match x with
      | .nil => some ⟨[], .sc (.own b ver), st.heap, true⟩
      | x => match rowF st.heap x with
       | some row => if (row.ag == blk.ag) && ctsEq row.cs blk.cs then some ⟨[mk2 .lei (mk1 .len (mk2 .app c row.e)) (.int zll)], .sc (.own b (ver + 1)), st.heap.set b { blk with ver := ver + 1, fr := blk.fr && row.fr, cont := .row (mk2 .app c row.e) }, true⟩ else none
       | none => none)
     else none
    | _ => none
   | none => none
  | .nil => match x with
   | .nil => none
   | x => match rowF st.heap x with
    | some row => if infoB P e row.cs.length then some ⟨[mk2 .lei (mk1 .len row.e) (.int zll)], .sc (.own st.heap.length 1), st.heap ++ [⟨1, true, row.fr && row.fr, e, row.ag, row.cs, .row row.e⟩], true⟩ else none
    | none => none
  | _ => none
 | _ => none) else none
theorem Rel.virt (r : Rel Γ gt ρ B G st as vss w) (fr : Bool) (e : TypeId) (ag : Bool) (cs : List CT) : Rel Γ gt ρ B G { st with heap := st.heap ++ [⟨0, true, fr, e, ag, cs, .row .nil⟩] } (as ++ [.slice none 0 0]) vss w := by
 have tr := Tr.push Γ ρ st.heap as r.alen ⟨0, true, fr, e, ag, cs, .row .nil⟩ (.slice none 0 0)
 have hal := r.alen
 refine r.step _ tr (Mem.le.refl _) (Mem.le.refl _) (by simp [hal]) ?_ ?_ ?_ r.base r.gs
 ·intro b k v h1 h2
  rcases zbv h1 with q1 | ⟨e1, f1⟩ <;> rcases zbv h2 with q2 | ⟨e2, f2⟩
  ·exact BlkRel.tr tr (Mem.le.refl _) (Mem.le.refl _) (r.blks b k v q1 q2) fun _ _ _ => rfl
  ·have := (List.getElem?_eq_some_iff.1 q1).1; omega
  ·have := (List.getElem?_eq_some_iff.1 q2).1; omega
  ·subst f1 f2
   refine BlkRel.ownRow rfl rfl ⟨[], World.ownsRow_nil _ _ _ _, RowT.nil⟩
 ·intro b k v g h1 h2 hl hg
  rcases zbv h1 with q1 | ⟨e1, f1⟩ <;> rcases zbv h2 with q2 | ⟨e2, f2⟩
  ·exact r.own b k v g q1 q2 hl hg
  ·subst f2; cases hg
  ·have := (List.getElem?_eq_some_iff.1 q2).1; omega
  ·subst f2; cases hg
 ·intro b b' k k' v v' g h1 h2 hl hg h3 h4 hl' hg'
  rcases zbv h1 with q1 | ⟨e1, f1⟩ <;> rcases zbv h2 with q2 | ⟨e2, f2⟩ <;> rcases zbv h3 with q3 | ⟨e3, f3⟩ <;> rcases zbv h4 with q4 | ⟨e4, f4⟩
  all_goals first
   | exact r.dist b b' _ _ _ _ g q1 q2 hl hg q3 q4 hl' hg'
   |(exfalso; subst f2; cases hg; done)
   |(exfalso; subst f4; cases hg'; done)
   | omega
   |(exfalso; have := (List.getElem?_eq_some_iff.1 q2).1; omega)
   |(exfalso; have := (List.getElem?_eq_some_iff.1 q4).1; omega)
theorem RowT.append {M : Mem} {ag : Bool} {cs : List CT} {ts us : List TV} {xs ys : List Value} (h : RowT M ag cs ts xs) (k : RowT M ag cs us ys) : RowT M ag cs (ts ++ us) (xs ++ ys) := by
 refine ⟨by rw [List.length_append, h.1, k.1, List.length_append, Nat.add_mul], fun i hi c hc => ?_⟩
 by_cases hlt : i < ts.length
 ·obtain ⟨v, h1, h2⟩ := h.2 i hlt c hc
  refine ⟨v, by rw [List.getElem?_append_left (by rw [h.1]; exact zyd hlt hc)]; exact h1, ?_⟩
  rw [List.getElem_append_left hlt]
  exact h2
 ·rw [List.length_append] at hi
  obtain ⟨v, h1, h2⟩ := k.2 (i - ts.length) (by omega) c hc
  have hge : ts.length * cs.length ≤ i * cs.length := Nat.mul_le_mul_right _ (by omega)
  refine ⟨v, ?_, ?_⟩
  ·rw [List.getElem?_append_right (by rw [h.1]; omega), h.1, show i * cs.length + c - ts.length * cs.length = (i - ts.length) * cs.length + c by rw [Nat.sub_mul]; omega]
   exact h1
  ·rw [List.getElem_append_right (by omega)]
   exact h2
theorem RowT.one {M : Mem} {ag : Bool} {cs : List CT} {ts : List TV} {xs : List Value} (h : RowT M ag cs ts xs) : ∀ u ∈ xs, u.oneCell' = true := by
 intro u hu
 obtain ⟨j, hj, rfl⟩ := List.mem_iff_getElem.1 hu
 rw [h.1] at hj
 obtain ⟨i, c, hi, hc, rfl⟩ := zvf hj
 obtain ⟨v, h1, h2⟩ := h.2 i hi c hc
 have := List.getElem?_eq_getElem (l := xs) (i := i * cs.length + c) (by rw [h.1]; exact hj)
 rw [this] at h1
 injection h1 with h1
 rw [h1]
 exact RepT.one h2
theorem qap (r : Rel Γ gt ρ B G st as vss w) {b : Nat} {blk : Blk} {c : E} {va : Value} (hb : st.heap[b]? = some blk) (hva : as[b]? = some va) (hc : blk.cont = .row c) (ho : blk.own = true) {t ty e : TypeId} (hu : P.underlying t = some (.slice e)) (hety : blk.ety = e)
  (hinfo : infoB P e blk.cs.length = true) {fr : Bool} {us : List TV} {x : Value} (hx : Reads (pick (zau w G) (fresh w G B) fr) w blk.ag blk.cs us x) (hlen : ((c.den Γ ρ).asList.length + us.length : Nat) ≤ zll) (y : E) (hy : (y.den Γ ρ).asList = (c.den Γ ρ).asList ++ us) :
  ∃ v' G' w', (Builtin.append_ #[t, t] ty #[va, x]).run P w = .ok v' w' ∧ Rel Γ gt ρ B G' { st with heap := st.heap.set b { blk with ver := blk.ver + 1, fr := blk.fr && fr, cont := .row y } } (as.set b v') vss w' ∧ Below B w w' ∧ v'.oneCell' = true := by
 obtain ⟨i, z, hi, hsz, hby, hpos, hz, hzs⟩ := infoB_eq hinfo
 have hbr := r.blks b blk va hb hva
 unfold BlkRel at hbr
 rw [hc] at hbr
 dsimp only at hbr
 rw [if_pos ho] at hbr
 obtain ⟨xs, hown, hrt⟩ := hbr
 have hpa := zw9 (zw3 w G B) blk.fr fr
 have hb40 : (c.den Γ ρ).asList.length + us.length ≤ 1099511627776 := by unfold zll at hlen; omega
 have hlive : blk.live = true := by simp [Blk.live, hc, ho]
 have hgo : gOf va = va.ownBlock := by rcases hown.2 with ⟨rfl, _⟩ | ⟨g, cap, cur, rfl, _⟩ <;> rfl
 obtain ⟨a, cap, news, rfl, hrn, hn, hcl⟩ := hx.load
 have fin : ∀ v' w', w'.ownsRow B blk.ety blk.cs.length v' ((c.den Γ ρ).asList.length + us.length) (xs ++ news) → w.grownBy w' va.ownBlock → (∀ g, v'.ownBlock = some g → va.ownBlock = some g ∨ w.heap.size ≤ g) →
   ∃ G', Rel Γ gt ρ B G' { st with heap := st.heap.set b { blk with ver := blk.ver + 1, fr := blk.fr && fr, cont := .row y } } (as.set b v') vss w' ∧ Below B w w' ∧ v'.oneCell' = true := by
  intro v' w' h2 h3 h4
  have hgo' : gOf v' = v'.ownBlock := by rcases h2.2 with ⟨rfl, _⟩ | ⟨g, cap, cur, rfl, _⟩ <;> rfl
  have ho' : v'.oneCell' = true := by rcases h2.2 with ⟨rfl, _⟩ | ⟨g, cap, cur, rfl, _⟩ <;> rfl
  refine ⟨_, r.turn (b := b) (blk := blk) (blk' := { blk with ver := blk.ver + 1, fr := blk.fr && fr, cont := .row y }) (va := va) (va' := v') hb hva hlive (by simp [Blk.live, ho]) (w' := w') (by simp) (fun h => by simp at h) h3.size
   (fun k hk hne => h3.block k hk (fun h => hne (by rw [hgo]; exact h.symm))) (fun g hg => ?_) ?_, ⟨h3.os, h3.tape, h3.output, h3.size, fun k hk => h3.block k (Nat.lt_of_lt_of_le hk r.base) (fun h => ?_)⟩, ho'⟩
  ·rw [hgo'] at hg
   have hl := h2.lt g hg
   refine ⟨hl.1, hl.2, ?_⟩
   rw [hgo]
   exact h4 g hg
  ·intro G' hp' as' tr hm hmf
   refine BlkRel.ownRow rfl ho ⟨xs ++ news, by rw [hy, List.length_append]; exact h2, ?_⟩
   rw [hy]
   exact ((hrt.mono hpa.1).append (hrn.mono hpa.2)).mono (zoq hm hmf _)
  ·have := hown.lt k h.symm
   omega
 cases a with
 | none =>
  obtain ⟨rfl, rfl⟩ := hn rfl
  have hcap : cap = 0 := by
   obtain ⟨a', cap', _, e1, _, _, e2, _⟩ := hx
   injection e1 with e1 e3 e4
   rw [e4]; exact e2 e1.symm
  subst hcap
  have hr := run_append_owned_none (P := P) w B t ty e i blk.cs.length hu hi va _ xs (by rw [← hety]; exact hown)
  obtain ⟨G', k1, k2, k3⟩ := fin va w (by simpa using hown) ⟨rfl, rfl, rfl, Nat.le_refl _, fun _ _ _ => rfl⟩ (fun g hg => .inl hg)
  exact ⟨va, G', w, hr, k1, k2, k3⟩
 | some ad =>
  obtain ⟨v', w', hr, h2, h3, h4⟩ := z6o (P := P) (w := w) B t ty e i z blk.cs.length i.bytes hu hi hz hsz rfl hzs hpos va _ xs (by rw [← hety]; exact hown) ad us.length cap news hrn.1 (hcl ad rfl) hrn.one (by unfold maxLen; omega)
   (by have := Nat.mul_le_mul hb40 hby; omega) r.base
  obtain ⟨G', k1, k2, k3⟩ := fin v' w' (by rw [hety]; exact h2) h3 h4
  exact ⟨v', G', w', hr, k1, k2, k3⟩
theorem sAppend_sound (r : Rel Γ gt ρ B G st as vss w) {t t2 ty : TypeId} {s x : SC} {out : Out} {v u : Value} (h : sAppend P st t t2 s x = some out) (hs : RepC Γ ρ st.heap as (zau w G) (fresh w G B) s v) (hx : RepC Γ ρ st.heap as (zau w G) (fresh w G B) x u) (hq : Holds Γ ρ out.req) :
  Done P Γ gt ρ B st vss w out ((Builtin.append_ #[t, t2] ty #[v, u]).run P w) ∧ out.wr = true := by
 unfold sAppend at h
 split at h
 ·rename_i ht
  obtain rfl := Nat.eq_of_beq_eq_true ht
  split at h
  ·rename_i e hu
   split at h
   ·rename_i b ver
    split at h
    ·rename_i blk hb
     split at h
     ·rename_i c hc
      split at h
      ·rename_i hcond
       simp only [Bool.and_eq_true] at hcond
       obtain ⟨⟨⟨ho, hv⟩, hety⟩, hinfo⟩ := hcond
       obtain ⟨hone, blk0, va, g1, g2, g3, g4⟩ := hs
       rw [hb] at g1
       injection g1 with g1
       subst g1
       have hver := Nat.eq_of_beq_eq_true hv
       have hety := Nat.eq_of_beq_eq_true hety
       obtain ⟨rfl, _⟩ := g4 hver
       split at h
       ·simp only [Option.some.injEq] at h
        subst h
        simp only [RepC] at hx
        subst hx
        obtain ⟨i, z, hi, hsz, hby, hpos, hz, hzs⟩ := infoB_eq hinfo
        have hbr := r.blks b blk v hb g2
        unfold BlkRel at hbr
        rw [hc] at hbr
        dsimp only at hbr
        rw [if_pos ho] at hbr
        obtain ⟨xs, hown, hrt⟩ := hbr
        have hr := run_append_owned_none (P := P) w B t ty e i blk.cs.length hu hi v _ xs (by rw [← hety]; exact hown)
        exact ⟨⟨v, as, G, w, hr, r, ⟨hone, blk, v, hb, g2, g3, fun _ => ⟨rfl, c, hc⟩⟩, Below.refl _ _, fun h => by cases h⟩, rfl⟩
       ·split at h
        ·rename_i row hrow
         split at h
         ·rename_i hcs
          simp only [Bool.and_eq_true, beq_iff_eq] at hcs
          simp only [Option.some.injEq] at h
          subst h
          have hread := rowF_reads r hrow hx
          rw [hcs.1, zh8 hcs.2] at hread
          have hq1 := zr7 (zhn hq)
          rw [zpo, zcn] at hq1
          simp only [P2.den, zaa, List.length_append, E.den, zac] at hq1
          obtain ⟨v', G', w', h1, h2, h3, h4⟩ := qap (P := P) (ty := ty) r hb g2 hc ho hu hety hinfo hread hq1 (mk2 .app c row.e) (by rw [zcn]; rfl)
          rw [hver] at h2
          refine ⟨⟨v', _, G', w', h1, h2, ⟨h4, _, v', zcm hb, zcm g2, Nat.le_refl _, fun _ => ⟨rfl, _, rfl⟩⟩, h3, fun h => by cases h⟩, rfl⟩
         ·cases h
        ·cases h
      ·cases h
     ·cases h
    ·cases h
   ·simp only [RepC] at hs
    subst hs
    split at h
    ·cases h
    ·split at h
     ·rename_i row hrow
      split at h
      ·rename_i hinfo
       simp only [Option.some.injEq] at h
       subst h
       have hread := rowF_reads r hrow hx
       have hq1 := zr7 (zhn hq)
       rw [zpo] at hq1
       simp only [E.den, zac] at hq1
       have rv := r.virt row.fr e row.ag row.cs
       have hal := r.alen
       have g1 : (st.heap ++ [(⟨0, true, row.fr, e, row.ag, row.cs, .row .nil⟩ : Blk)])[st.heap.length]? = some ⟨0, true, row.fr, e, row.ag, row.cs, .row .nil⟩ := by simp
       have g2 : (as ++ [Value.slice none 0 0])[st.heap.length]? = some (.slice none 0 0) := by rw [← hal]; simp
       obtain ⟨v', G', w', h1, h2, h3, h4⟩ := qap (P := P) (ty := ty) rv g1 g2 rfl rfl hu rfl hinfo hread (by simpa [E.den, zaa] using hq1) row.e (by simp [E.den, zaa])
       have e1 : (st.heap ++ [(⟨0, true, row.fr, e, row.ag, row.cs, .row .nil⟩ : Blk)]).set st.heap.length ⟨1, true, row.fr && row.fr, e, row.ag, row.cs, .row row.e⟩ = st.heap ++ [⟨1, true, row.fr && row.fr, e, row.ag, row.cs, .row row.e⟩] := by
        rw [List.set_append_right _ _ (Nat.le_refl _)]; simp
       have h2' : Rel Γ gt ρ B G' { st with heap := st.heap ++ [⟨1, true, row.fr && row.fr, e, row.ag, row.cs, .row row.e⟩] } ((as ++ [Value.slice none 0 0]).set st.heap.length v') vss w' := by rw [← e1]; exact h2
       exact ⟨⟨v', _, G', w', h1, h2', ⟨h4, ⟨1, true, row.fr && row.fr, e, row.ag, row.cs, .row row.e⟩, v', List.getElem?_concat_length, zcm g2, Nat.le_refl _, fun _ => ⟨rfl, row.e, rfl⟩⟩, h3, fun h => by cases h⟩, rfl⟩
      ·cases h
     ·cases h
   ·cases h
  ·cases h
 ·cases h
theorem RowT.take {M : Mem} {ag : Bool} {cs : List CT} {ts : List TV} {xs : List Value} (h : RowT M ag cs ts xs) (k : Nat) : RowT M ag cs (ts.take k) (xs.take (k * cs.length)) := by
 refine ⟨?_, fun i hi c hc => ?_⟩
 ·rw [List.length_take, List.length_take, h.1]
  rcases Nat.le_total k ts.length with hk | hk
  ·rw [Nat.min_eq_left hk, Nat.min_eq_left (Nat.mul_le_mul_right _ hk)]
  ·rw [Nat.min_eq_right hk, Nat.min_eq_right (Nat.mul_le_mul_right _ hk)]
 ·rw [List.length_take] at hi
  obtain ⟨v, h1, h2⟩ := h.2 i (by omega) c hc
  have hlt : i * cs.length + c < k * cs.length := zyd (by omega) hc
  refine ⟨v, by rw [List.getElem?_take, if_pos hlt]; exact h1, ?_⟩
  rw [List.getElem_take]
  exact h2
theorem RowT.drop {M : Mem} {ag : Bool} {cs : List CT} {ts : List TV} {xs : List Value} (h : RowT M ag cs ts xs) (k : Nat) : RowT M ag cs (ts.drop k) (xs.drop (k * cs.length)) := by
 refine ⟨by rw [List.length_drop, List.length_drop, h.1, Nat.sub_mul], fun i hi c hc => ?_⟩
 rw [List.length_drop] at hi
 obtain ⟨v, h1, h2⟩ := h.2 (k + i) (by omega) c hc
 refine ⟨v, by rw [List.getElem?_drop, ← Nat.add_assoc, ← Nat.add_mul]; exact h1, ?_⟩
 rw [List.getElem_drop]
 exact h2
def copyN (s c : E) : E := mk2 .min (mk1 .len s) (mk1 .len c)
def copyE (s c : E) : E := mk2 .app (subE s (.int 0) (copyN s c)) (subE c (copyN s c) (mk1 .len c))
def sCopy (P : Program) (st : SS) (t : TypeId) (s x : SC) : Option Out := match P.underlying t with
 | some (.slice e) => match s with
  | .own b ver => match st.heap[b]? with
   | some blk => match blk.cont with
    | .row c => if blk.own && Nat.beq blk.ver ver && sizeB P e 1 && Nat.beq blk.cs.length 1 then (match rowOf st.heap x with
     | some row => if (row.ag == blk.ag) && ctsEq row.cs blk.cs then some ⟨[], .sc (.int .i64 (copyN row.e c)), st.heap.set b { blk with cont := .row (copyE row.e c), fr := blk.fr && row.fr }, true⟩ else none
     | none => none) else none
    | _ => none
   | none => none
  | _ => none
 | _ => none
theorem copyN_den (s c : E) : (copyN s c).den Γ ρ = .int ((min (s.den Γ ρ).asList.length (c.den Γ ρ).asList.length : Nat) : Int) := by
 unfold copyN
 rw [zcn, zi5, zi5]
 simp only [P2.den, P1.den, zac]
 congr 1
 omega
theorem copyE_den (s c : E) : ((copyE s c).den Γ ρ).asList = (s.den Γ ρ).asList.take (min (s.den Γ ρ).asList.length (c.den Γ ρ).asList.length) ++ (c.den Γ ρ).asList.drop (min (s.den Γ ρ).asList.length (c.den Γ ρ).asList.length) := by
 unfold copyE
 rw [zcn]
 simp only [P2.den, subE, E.den, P3.den, copyN_den, zac, zaa, zi5, P1.den, Int.toNat_natCast, Int.toNat_zero, List.drop_zero, Nat.sub_zero]
 congr 1
 rw [List.take_of_length_le (by rw [List.length_drop]; omega)]
theorem sCopy_sound (r : Rel Γ gt ρ B G st as vss w) {t t2 ty : TypeId} {s x : SC} {out : Out} {v u : Value} (h : sCopy P st t s x = some out) (hs : RepC Γ ρ st.heap as (zau w G) (fresh w G B) s v) (hx : RepC Γ ρ st.heap as (zau w G) (fresh w G B) x u) :
  Done P Γ gt ρ B st vss w out ((Builtin.copy_ #[t, t2] ty #[v, u]).run P w) := by
 unfold sCopy at h
 split at h
 ·rename_i e hu
  split at h
  ·rename_i b ver
   split at h
   ·rename_i blk hb
    split at h
    ·rename_i c hc
     split at h
     ·rename_i hcond
      simp only [Bool.and_eq_true, Nat.beq_eq] at hcond
      obtain ⟨⟨⟨ho, hv⟩, hsz1⟩, hcs1⟩ := hcond
      split at h
      ·rename_i row hrow
       split at h
       ·rename_i hce
        simp only [Bool.and_eq_true, beq_iff_eq] at hce
        have hcse := zh8 hce.2
        simp only [Option.some.injEq] at h
        subst h
        have hsize : (P.info? e).map (·.size) = some 1 := zo7 hsz1
        obtain ⟨hone, blk0, va, g1, g2, g3, g4⟩ := hs
        rw [hb] at g1
        injection g1 with g1
        subst g1
        obtain ⟨rfl, _⟩ := g4 hv
        have hread := zgc r hrow hx
        rw [hce.1, hcse] at hread
        obtain ⟨a, scap, ys, rfl, hscap, hsmax, hsnil, hsrow, hscell⟩ := hread
        have hbr := r.blks b blk v hb g2
        unfold BlkRel at hbr
        rw [hc] at hbr
        dsimp only at hbr
        rw [if_pos ho] at hbr
        obtain ⟨xs, hown, hrt⟩ := hbr
        generalize hss : (row.e.den Γ ρ).asList = ss at *
        generalize hts : (c.den Γ ρ).asList = ts at *
        have hys : ys.length = ss.length := by rw [hsrow.1, hcs1, Nat.mul_one]
        have hxs : xs.length = ts.length := by rw [hrt.1, hcs1, Nat.mul_one]
        have hE : ((copyE row.e c).den Γ ρ).asList = ss.take (min ss.length ts.length) ++ ts.drop (min ss.length ts.length) := by rw [copyE_den, hss, hts]
        have hEl : ((copyE row.e c).den Γ ρ).asList.length = ts.length := by rw [hE, List.length_append, List.length_take, List.length_drop]; omega
        have hN : (copyN row.e c).den Γ ρ = .int ((min ss.length ts.length : Nat) : Int) := by rw [copyN_den, hss, hts]
        have hlive : blk.live = true := by simp [Blk.live, hc, ho]
        have hp := zw9 (zw3 w G B) blk.fr row.fr
        have hnew : RowT (pick (zau w G) (fresh w G B) (blk.fr && row.fr)) blk.ag blk.cs ((copyE row.e c).den Γ ρ).asList (ys.take (min ss.length ts.length) ++ xs.drop (min ss.length ts.length)) := by
         rw [hE]
         have k1 := (hsrow.mono hp.2).take (min ss.length ts.length)
         have k2 := (hrt.mono hp.1).drop (min ss.length ts.length)
         rw [hcs1, Nat.mul_one] at k1 k2
         exact k1.append k2
        rcases hown.2 with ⟨e0, ex⟩ | ⟨g', cap, cur, e0, hB, hg, hle, hmax, hsz, htk⟩
        ·subst e0
         have ht0 : ts.length = 0 := ex
         have hmin : min ss.length ts.length = 0 := by omega
         have hrun := run_copy_none (P := P) w t t2 ty e none a 0 0 ss.length scap hu hsize (by simp)
         have hturn := r.turn (b := b) (blk := blk) (blk' := { blk with cont := .row (copyE row.e c), fr := blk.fr && row.fr }) (va := .slice none 0 0) (va' := .slice none 0 0) hb g2 hlive (by simp [Blk.live, ho]) (w' := w)
          (Nat.le_refl _) (fun _ => ⟨rfl, by simp only [Blk.size, hc], by simp only [Blk.len, hc, hEl, hts], fun e h => ⟨_, rfl⟩⟩) (Nat.le_refl _) (fun k hk hne => rfl)
          (fun g hg' => by cases hg') ?_
         ·rw [qbf g2] at hturn
          refine ⟨_, _, _, _, hrun, hturn, ?_, Below.refl _ _, fun h => by cases h⟩
          simp only [RepV, RepC, hN, hmin, goInt, zac]
          rfl
         ·intro G' hp' as' tr hm hmf
          exact BlkRel.ownRow rfl ho ⟨_, ⟨hnew.1, .inl ⟨rfl, by rw [hEl]; exact ht0⟩⟩, hnew.mono (zoq hm hmf _)⟩
        ·subst e0
         have hcs0 : (ys.take (min ss.length ts.length)).length = Nat.min ss.length ts.length := by rw [List.length_take, hys]; show min (min ss.length ts.length) ss.length = min ss.length ts.length; omega
         have hone' : ∀ q ∈ ys.take (min ss.length ts.length), q.oneCell' = true := fun q hq => RowT.one hsrow q (List.mem_of_mem_take hq)
         rw [hcs1, Nat.mul_one] at hsz htk
         have hgB : B ≤ g' ∧ g' < w.heap.size := ⟨hB, (Array.getElem?_eq_some_iff.1 hg).1⟩
         by_cases hmin : min ss.length ts.length = 0
         ·have hrun := run_copy_none (P := P) w t t2 ty e (some ⟨g', 0, none⟩) a ts.length cap ss.length scap hu hsize hmin
          have hturn := r.turn (b := b) (blk := blk) (blk' := { blk with cont := .row (copyE row.e c), fr := blk.fr && row.fr }) hb g2 hlive (by simp [Blk.live, ho]) (w' := w)
           (Nat.le_refl _) (fun _ => ⟨rfl, by simp only [Blk.size, hc], by simp only [Blk.len, hc, hEl, hts], fun e h => ⟨_, rfl⟩⟩) (Nat.le_refl _) (fun k hk hne => rfl)
           (fun g hg' => by injection hg' with hg'; simp only at hg'; subst hg'; exact ⟨hB, hgB.2, .inl rfl⟩) ?_
          ·rw [qbf g2] at hturn
           refine ⟨_, _, _, _, hrun, hturn, ?_, Below.refl _ _, fun h => by cases h⟩
           simp only [RepV, RepC, hN, hmin, goInt, zac]
           rfl
          ·intro G' hp' as' tr hm hmf
           rw [hmin, List.take_zero, List.nil_append, List.drop_zero] at hnew
           exact BlkRel.ownRow rfl ho ⟨_, ⟨hnew.1, .inr ⟨g', cap, cur, by rw [hEl], hB, hg, by rw [hEl]; exact hle, hmax, by rw [hcs1, Nat.mul_one]; exact hsz, by rw [hEl, hcs1, Nat.mul_one]; exact htk⟩⟩, hnew.mono (zoq hm hmf _)⟩
         ·have hane : ∃ ad, a = some ad := by
           have h0 : 0 < ys.length := by omega
           obtain ⟨g, off, ha, _⟩ := hscell 0 ys[0] (List.getElem?_eq_getElem h0)
           exact ⟨_, ha⟩
          obtain ⟨ad, rfl⟩ := hane
          have hsrc : ∀ j q, (ys.take (min ss.length ts.length))[j]? = some q → w.cell? (ad.add j) = some q := fun j q hq => by
           rw [List.getElem?_take] at hq
           split at hq
           ·obtain ⟨g, off, ha, hcell⟩ := hscell j q hq
            injection ha with ha
            subst ha
            rw [show (Addr.add ⟨g, off, none⟩ j) = ⟨g, off + j, none⟩ from by unfold Addr.add; split <;> simp_all]
            exact hcell
           ·cases hq
          have hrun := run_copy_row (P := P) w t t2 ty e g' 0 ts.length cap ad ss.length scap cur blk.ety (ys.take (min ss.length ts.length)) hu hsize hg hcs0 hsrc (by rw [hcs0]; show 0 + min ss.length ts.length ≤ cur.size; omega) hone'
          have hcl : (ys.take (min ss.length ts.length)).length = min ss.length ts.length := hcs0
          rw [hcl] at hrun
          have hturn := r.turn (b := b) (blk := blk) (blk' := { blk with cont := .row (copyE row.e c), fr := blk.fr && row.fr }) hb g2 hlive (by simp [Blk.live, ho]) (w' := w.setRow g' (cur.toList.take 0 ++ ys.take (min ss.length ts.length) ++ cur.toList.drop (0 + min ss.length ts.length)).toArray)
           (Nat.le_refl _) (fun _ => ⟨rfl, by simp only [Blk.size, hc], by simp only [Blk.len, hc, hEl, hts], fun e h => ⟨_, rfl⟩⟩) (by simp) (fun k hk hne => setRow_other w g' k _ (fun e => hne (by rw [e]; rfl)))
           (fun g hg' => by injection hg' with hg'; simp only at hg'; subst hg'; exact ⟨hB, by simpa using hgB.2, .inl rfl⟩) ?_
          ·rw [qbf g2] at hturn
           refine ⟨_, _, _, _, hrun, hturn, ?_, z5g r.base hB _, fun h => by cases h⟩
           simp only [RepV, RepC, hN, goInt, zac]
          ·intro G' hp' as' tr hm hmf
           refine BlkRel.ownRow rfl ho ⟨_, ⟨hnew.1, .inr ⟨g', cap, _, by rw [hEl], hB, setRow_heap w g' cur _ blk.ety (0, 0) hg, by rw [hEl]; exact hle, hmax, ?_, ?_⟩⟩, hnew.mono (zoq hm hmf _)⟩
           ·rw [hcs1, Nat.mul_one, List.size_toArray, List.length_append, List.length_append, List.length_take, List.length_drop, hcl, Array.length_toList]
            omega
           ·rw [hEl, hcs1, Nat.mul_one, List.take_zero, List.nil_append, Nat.zero_add]
            rw [← htk, List.drop_take]
            rw [List.take_append, hcl, List.take_of_length_le (by omega)]
       ·cases h
      ·cases h
     ·cases h
    ·cases h
   ·cases h
  ·cases h
 ·cases h
theorem zxl (base : Nat) (t u ty e : TypeId) (i : TypeInfo) (ht : P.underlying t = some (.slice e)) (hu : P.underlying u = some .string) (hi : P.info? e = some i) (hz : i.zero = some (.int .u8 0))
  (hsize : i.size = 1) (hby : i.bytes = 1) (v : Value) (n : Nat) (xs : List Value) (hown : w.ownsRow base e 1 v n xs) (s : ByteArray)
  (h63 : n + s.size ≤ maxLen) (hbytes : n + s.size ≤ 140737488355328) (hbase : base ≤ w.heap.size) :
  ∃ v' w', (Builtin.append_ #[t, u] ty #[v, .string s]).run P w = .ok v' w' ∧ w'.ownsRow base e 1 v' (n + s.size) (xs ++ Lib.strCells s) ∧ w.grownBy w' v.ownBlock ∧
   ∀ g, v'.ownBlock = some g → v.ownBlock = some g ∨ w.heap.size ≤ g := by
 obtain ⟨v', w', hr, h2, h3, h4⟩ := Lib.run_append_own_string (P := P) w base t u ty e i ht hu hi hz hsize hby v n xs hown s h63 hbytes hbase
 refine ⟨v', w', hr, h2, h3, fun g hg => ?_⟩
 have hm64 : n + s.size ≤ 9223372036854775807 := by unfold maxLen at h63; omega
 have hxl : xs.length = n := by simpa using hown.1
 rcases hown.2 with ⟨rfl, rfl⟩ | ⟨g', cap, cur, rfl, hbg, hgg, hnc, hcm, hcs, htake⟩
 ·by_cases hm : s.size = 0
  ·have := h4.2 ⟨rfl, hm⟩
   rw [this] at hg
   cases hg
  ·have hr2 := run_append_nil_string (P := P) w t u ty e i (.int .u8 0) ht hu hi hz s (by omega) (by omega) (by rw [hby]; omega)
   rw [hr] at hr2
   injection hr2 with e1 e2
   rw [e1] at hg
   injection hg with hg
   simp only at hg
   exact .inr (by omega)
 ·by_cases hroom : n + s.size ≤ cap
  ·have hcz : cur.size = cap := by simpa using hcs
   have hr2 := Lib.run_append_room_string (P := P) w t u ty e i ht hu hi hsize g' n cap cur hgg s hroom (by omega)
   rw [hr] at hr2
   injection hr2 with e1 e2
   rw [e1] at hg
   exact .inl hg
  ·have holds : ∀ (j : Nat) (u : Value), xs[j]? = some u → w.cell? ((⟨g', 0, none⟩ : Addr).add j) = some u := hown.cells (g := g') rfl
   have hr2 := Lib.run_append_grow_string (P := P) w t u ty e i (.int .u8 0) ht hu hi hz ⟨g', 0, none⟩ n cap xs (by rw [hsize]; simpa using hxl) holds s (by omega) (by omega) (by rw [hby]; exact growslice_fits (by omega) (by omega))
   rw [hr] at hr2
   injection hr2 with e1 e2
   rw [e1] at hg
   injection hg with hg
   simp only at hg
   exact .inr (by omega)
def infoU8 (P : Program) (e : TypeId) : Bool := match P.info? e with
 | some i => Nat.beq i.size 1 && Nat.beq i.bytes 1 && (match i.zero with
  | some (.int .u8 z) => decide (z = 0)
  | _ => false)
 | none => false
theorem infoU8_eq {e : TypeId} (h : infoU8 P e = true) : ∃ i, P.info? e = some i ∧ i.zero = some (.int .u8 0) ∧ i.size = 1 ∧ i.bytes = 1 := by
 unfold infoU8 at h
 split at h
 ·rename_i i hi
  simp only [Bool.and_eq_true, Nat.beq_eq] at h
  obtain ⟨⟨h1, h2⟩, h3⟩ := h
  split at h3
  ·rename_i z hz
   exact ⟨i, hi, by rw [hz, of_decide_eq_true h3], h1, h2⟩
  ·cases h3
 ·cases h
def strT (P : Program) (t : TypeId) : Bool := match P.underlying t with | some .string => true | _ => false
theorem strT_eq {t : TypeId} (h : strT P t = true) : P.underlying t = some .string := by
 unfold strT at h
 split at h
 ·assumption
 ·cases h
def sAppStr (P : Program) (st : SS) (t t2 : TypeId) (s : SC) (x : E) : Option Out := if strT P t2 then (match P.underlying t with
 | some (.slice e) => if infoU8 P e then (match s with
  | .own b ver => match st.heap[b]? with
   | some blk => match blk.cont with
    | .row c => if blk.own && Nat.beq blk.ver ver && Nat.beq blk.ety e && (blk.ag == false) && ctsEq blk.cs [.int .u8] then
      some ⟨[mk2 .lei (mk1 .len (mk2 .app c (mk1 .bytesOf x))) (.int zll)], .sc (.own b (ver + 1)), st.heap.set b { blk with ver := ver + 1, cont := .row (mk2 .app c (mk1 .bytesOf x)) }, true⟩
     else none
    | _ => none
   | none => none
  | .nil => some ⟨[mk2 .lei (mk1 .len (mk1 .bytesOf x)) (.int zll)], .sc (.own st.heap.length 1), st.heap ++ [⟨1, true, true, e, false, [.int .u8], .row (mk1 .bytesOf x)⟩], true⟩
  | _ => none) else none
 | _ => none) else none
theorem RowT.strCells {M : Mem} (s : List UInt8) : RowT M false [.int .u8] (s.map fun b => TV.int b.toNat) (Lib.strCells ⟨s.toArray⟩) := by
 have e : Lib.strCells ⟨s.toArray⟩ = (s.map fun b => TV.int b.toNat).map fun t => .int .u8 t.asInt := by
  simp [Lib.strCells, TV.asInt]
 rw [e]
 exact ⟨by simp, fun i hi c hc => by
  have hc0 : c = 0 := by simpa using hc
  subst hc0
  have hi' : i < s.length := by simpa using hi
  refine ⟨.int .u8 s[i].toNat, by simp [hi', TV.asInt], ?_⟩
  have e2 : zbk false (s.map fun b => TV.int b.toNat)[i] 0 = .int s[i].toNat := by simp [zbk]
  rw [e2]
  exact .int _ _⟩
theorem z5e (r : Rel Γ gt ρ B G st as vss w) {b : Nat} {blk : Blk} {c : E} {va : Value} (hb : st.heap[b]? = some blk) (hva : as[b]? = some va) (hc : blk.cont = .row c) (ho : blk.own = true) {t t2 ty e : TypeId} (hu : P.underlying t = some (.slice e)) (hu2 : P.underlying t2 = some .string) (hety : blk.ety = e)
  (hag : blk.ag = false) (hcs : blk.cs = [.int .u8]) (hinfo : infoU8 P e = true) (s : List UInt8) (hlen : ((c.den Γ ρ).asList.length + s.length : Nat) ≤ zll) (y : E) (hy : (y.den Γ ρ).asList = (c.den Γ ρ).asList ++ s.map fun b => .int b.toNat) :
  ∃ v' G' w', (Builtin.append_ #[t, t2] ty #[va, .string ⟨s.toArray⟩]).run P w = .ok v' w' ∧ Rel Γ gt ρ B G' { st with heap := st.heap.set b { blk with ver := blk.ver + 1, cont := .row y } } (as.set b v') vss w' ∧ Below B w w' ∧ v'.oneCell' = true := by
 obtain ⟨i, hi, hz, hsz, hby⟩ := infoU8_eq hinfo
 have hbr := r.blks b blk va hb hva
 unfold BlkRel at hbr
 rw [hc] at hbr
 dsimp only at hbr
 rw [if_pos ho] at hbr
 obtain ⟨xs, hown, hrt⟩ := hbr
 have hb40 : (c.den Γ ρ).asList.length + s.length ≤ 1099511627776 := by unfold zll at hlen; omega
 have hlive : blk.live = true := by simp [Blk.live, hc, ho]
 have hgo : gOf va = va.ownBlock := by rcases hown.2 with ⟨rfl, _⟩ | ⟨g, cap, cur, rfl, _⟩ <;> rfl
 have hown1 : w.ownsRow B e 1 va (c.den Γ ρ).asList.length xs := by rw [hety, hcs] at hown; exact hown
 have hsz' : (⟨s.toArray⟩ : ByteArray).size = s.length := zkh s
 obtain ⟨v', w', hr, h2, h3, h4⟩ := zxl (P := P) (w := w) B t t2 ty e i hu hu2 hi hz hsz hby va _ xs hown1 ⟨s.toArray⟩ (by rw [hsz']; unfold maxLen; omega) (by rw [hsz']; omega) r.base
 rw [hsz'] at h2
 have hgo' : gOf v' = v'.ownBlock := by rcases h2.2 with ⟨rfl, _⟩ | ⟨g, cap, cur, rfl, _⟩ <;> rfl
 have ho' : v'.oneCell' = true := by rcases h2.2 with ⟨rfl, _⟩ | ⟨g, cap, cur, rfl, _⟩ <;> rfl
 refine ⟨v', _, w', hr, r.turn (b := b) (blk := blk) (blk' := { blk with ver := blk.ver + 1, cont := .row y }) (va := va) (va' := v') hb hva hlive (by simp [Blk.live, ho]) (w' := w') (by simp) (fun h => by simp at h) h3.size
  (fun k hk hne => h3.block k hk (fun h => hne (by rw [hgo]; exact h.symm))) (fun g hg => ?_) ?_, ⟨h3.os, h3.tape, h3.output, h3.size, fun k hk => h3.block k (Nat.lt_of_lt_of_le hk r.base) (fun h => ?_)⟩, ho'⟩
 ·rw [hgo'] at hg
  have hl := h2.lt g hg
  refine ⟨hl.1, hl.2, ?_⟩
  rw [hgo]
  exact h4 g hg
 ·intro G' hp' as' tr hm hmf
  refine BlkRel.ownRow rfl ho ⟨xs ++ Lib.strCells ⟨s.toArray⟩, by dsimp only; rw [hy, List.length_append, List.length_map, hety, hcs]; exact h2, ?_⟩
  dsimp only
  rw [hy, hag, hcs]
  rw [hag, hcs] at hrt
  exact (hrt.mono (zoq hm hmf _)).append (RowT.strCells s)
 ·have := hown.lt k h.symm
  omega
theorem zsz (x : E) : ((mk1 .bytesOf x).den Γ ρ).asList = (x.den Γ ρ).asStr.map fun b => .int b.toNat := by rw [zi5]; rfl
theorem sAppStr_sound (r : Rel Γ gt ρ B G st as vss w) {t t2 ty : TypeId} {s : SC} {x : E} {out : Out} {v : Value} (h : sAppStr P st t t2 s x = some out) (hs : RepC Γ ρ st.heap as (zau w G) (fresh w G B) s v) (hq : Holds Γ ρ out.req) :
  Done P Γ gt ρ B st vss w out ((Builtin.append_ #[t, t2] ty #[v, .string ⟨(x.den Γ ρ).asStr.toArray⟩]).run P w) ∧ out.wr = true := by
 unfold sAppStr at h
 split at h
 ·rename_i ht
  have ht := strT_eq ht
  split at h
  ·rename_i e hu
   split at h
   ·rename_i hinfo
    split at h
    ·rename_i b ver
     split at h
     ·rename_i blk hb
      split at h
      ·rename_i c hc
       split at h
       ·rename_i hcond
        simp only [Bool.and_eq_true, beq_iff_eq] at hcond
        obtain ⟨⟨⟨⟨ho, hv⟩, hety⟩, hag⟩, hcs⟩ := hcond
        obtain ⟨hone, blk0, va, g1, g2, g3, g4⟩ := hs
        rw [hb] at g1
        injection g1 with g1
        subst g1
        have hver := Nat.eq_of_beq_eq_true hv
        have hety := Nat.eq_of_beq_eq_true hety
        obtain ⟨rfl, _⟩ := g4 hver
        simp only [Option.some.injEq] at h
        subst h
        have hq1 := zr7 (zhn hq)
        rw [zpo, zcn] at hq1
        simp only [P2.den, zaa, List.length_append, E.den, zac, zsz, List.length_map] at hq1
        obtain ⟨v', G', w', h1, h2, h3, h4⟩ := z5e (P := P) (ty := ty) r hb g2 hc ho hu ht hety hag (zh8 hcs) hinfo (x.den Γ ρ).asStr hq1 (mk2 .app c (mk1 .bytesOf x)) (by rw [zcn]; simp only [P2.den, zaa, zsz])
        rw [hver] at h2
        exact ⟨⟨v', _, G', w', h1, h2, ⟨h4, _, v', zcm hb, zcm g2, Nat.le_refl _, fun _ => ⟨rfl, _, rfl⟩⟩, h3, fun h => by cases h⟩, rfl⟩
       ·cases h
      ·cases h
     ·cases h
    ·simp only [RepC] at hs
     subst hs
     simp only [Option.some.injEq] at h
     subst h
     have hq1 := zr7 (zhn hq)
     rw [zpo] at hq1
     simp only [E.den, zac, zsz, List.length_map] at hq1
     have rv := r.virt true e false [.int .u8]
     have hal := r.alen
     have g1 : (st.heap ++ [(⟨0, true, true, e, false, [.int .u8], .row .nil⟩ : Blk)])[st.heap.length]? = some ⟨0, true, true, e, false, [.int .u8], .row .nil⟩ := by simp
     have g2 : (as ++ [Value.slice none 0 0])[st.heap.length]? = some (.slice none 0 0) := by rw [← hal]; simp
     obtain ⟨v', G', w', h1, h2, h3, h4⟩ := z5e (P := P) (ty := ty) rv g1 g2 rfl rfl hu ht rfl rfl rfl hinfo (x.den Γ ρ).asStr (by simpa [E.den, zaa] using hq1) (mk1 .bytesOf x) (by simp [E.den, zaa, zsz])
     have e1 : (st.heap ++ [(⟨0, true, true, e, false, [.int .u8], .row .nil⟩ : Blk)]).set st.heap.length ⟨1, true, true, e, false, [.int .u8], .row (mk1 .bytesOf x)⟩ = st.heap ++ [⟨1, true, true, e, false, [.int .u8], .row (mk1 .bytesOf x)⟩] := by
      rw [List.set_append_right _ _ (Nat.le_refl _)]; simp
     have h2' : Rel Γ gt ρ B G' { st with heap := st.heap ++ [⟨1, true, true, e, false, [.int .u8], .row (mk1 .bytesOf x)⟩] } ((as ++ [Value.slice none 0 0]).set st.heap.length v') vss w' := by rw [← e1]; exact h2
     exact ⟨⟨v', _, G', w', h1, h2', ⟨h4, ⟨1, true, true, e, false, [.int .u8], .row (mk1 .bytesOf x)⟩, v', List.getElem?_concat_length, zcm g2, Nat.le_refl _, fun _ => ⟨rfl, _, rfl⟩⟩, h3, fun h => by cases h⟩, rfl⟩
    ·cases h
   ·cases h
  ·cases h
 ·cases h
def sMake (P : Program) (st : SS) (t : TypeId) (l c : SC) : Option Out := match P.underlying t, l, c with
 | some (.slice e), .int _ n, .int _ m => match shapeP P 12 e, zeroP P e with
  | some (ag, cts), some z => if infoB P e cts.length && Nat.beq z.length cts.length then (match zte st.heap cts z with
   | some (fr, es, hp) => match zmn ag es with
    | some y => some (newRow st [mk2 .lei (.int 0) n, mk2 .lei n m, mk2 .lei m (.int zll)] hp fr e ag cts (mk2 .repl n y))
    | none => none
   | none => none) else none
  | _, _ => none
 | _, _, _ => none
theorem RowT.rep {M : Mem} {ag : Bool} {cs : List CT} {t : TV} {zs : List Value} (h : CellsT M ag cs t zs) (n : Nat) : RowT M ag cs (List.replicate n t) ((List.replicate n zs).flatten) := by
 induction n with
 | zero => exact RowT.nil
 | succ n ih => exact RowT.cons h ih
theorem madeCells_eq (z : Array Value) (hz : 0 < z.size) (n : Nat) : (madeCells z (n * z.size)).toList = (List.replicate n z.toList).flatten := by
 apply List.ext_getElem?
 intro j
 have hl : ((List.replicate n z.toList).flatten).length = n * z.size := by simp
 by_cases hj : j < n * z.size
 ·obtain ⟨i, c, hi, hc, rfl⟩ := zvf hj
  have h1 : (madeCells z (n * z.size)).toList[i * z.size + c]? = some z[c] := by
   simp only [madeCells, Array.toList_map, List.getElem?_map]
   have hr' : (Array.range (n * z.size)).toList[i * z.size + c]? = some (i * z.size + c) := by simp [hj]
   rw [hr']
   simp only [Option.map_some, Option.some.injEq]
   have : (i * z.size + c) % z.size = c := by rw [Nat.mul_comm, Nat.mul_add_mod]; exact Nat.mod_eq_of_lt hc
   rw [this]
   exact getElem!_pos z c hc
  rw [h1]
  clear h1 hj hl
  induction n generalizing i with
  | zero => omega
  | succ n ih =>
   rw [List.replicate_succ, List.flatten_cons]
   cases i with
   | zero => rw [List.getElem?_append_left (by simp; omega)]; simp [hc]
   | succ i =>
    rw [List.getElem?_append_right (by simp [Nat.add_mul]; omega)]
    have := ih i (by omega)
    simp only [Array.length_toList]
    rw [show (i + 1) * z.size + c - z.size = i * z.size + c by rw [Nat.add_mul]; omega]
    exact this
 ·rw [List.getElem?_eq_none (by simp [size_madeCells]; omega), List.getElem?_eq_none (by omega)]
theorem sMake_sound (r : Rel Γ gt ρ B G st as vss w) {t : TypeId} {l c : SC} {out : Out} {v u : Value} (h : sMake P st t l c = some out) (hl : RepC Γ ρ st.heap as (zau w G) (fresh w G B) l v) (hc : RepC Γ ρ st.heap as (zau w G) (fresh w G B) c u) (hq : Holds Γ ρ out.req) :
  Done P Γ gt ρ B st vss w out ((Instr.makeSlice t v u).run P w) := by
 unfold sMake at h
 split at h
 ·rename_i e kl n kc m hu
  split at h
  ·rename_i ag cts z hsh hz
   split at h
   ·rename_i hcond
    simp only [Bool.and_eq_true, Nat.beq_eq] at hcond
    split at h
    ·rename_i fr es hp hre
     split at h
     ·rename_i y hy
      simp only [Option.some.injEq] at h
      subst h
      simp only [RepC] at hl hc
      subst hl hc
      obtain ⟨i, zv, hi, hsz, hby, hpos, hz0, hzs⟩ := infoB_eq hcond.1
      unfold zeroP at hz
      rw [hi] at hz
      simp only [Option.bind_some, hz0, Option.map_some, Option.some.injEq] at hz
      have hq1 := zr7 (hq (mk2 .lei (.int 0) n) (by simp [newRow]))
      have hq2 := zr7 (hq (mk2 .lei n m) (by simp [newRow]))
      have hq3 := zr7 (hq (mk2 .lei m (.int zll)) (by simp [newRow]))
      have hq1 : 0 ≤ (n.den Γ ρ).asInt := hq1
      have hq3 : (m.den Γ ρ).asInt ≤ 1099511627776 := hq3
      obtain ⟨G', lt, a1, a2, a3⟩ := zmq (vs := zv.cells.toList) r hre (by rw [← hz]; exact zm7 _ _ _ _ _)
      have hcells := zxd hy a1 a2 a3
      have hb : (i.bytes : Int) * (m.den Γ ρ).asInt ≤ 281474976710656 := by
       have h0 : 0 ≤ (m.den Γ ρ).asInt := by omega
       have : (i.bytes : Int) * (m.den Γ ρ).asInt ≤ 128 * (m.den Γ ρ).asInt := Int.mul_le_mul_of_nonneg_right (by omega) h0
       omega
      rw [run_make w t e i zv hu hi hz0 kl kc _ _ hq1 hq2 hb (by omega)]
      have hden : ((mk2 .repl n y).den Γ ρ).asList = List.replicate (n.den Γ ρ).asInt.toNat (y.den Γ ρ) := by rw [zcn]; rfl
      have hrow := RowT.rep hcells (n.den Γ ρ).asInt.toNat
      have hle : (n.den Γ ρ).asInt.toNat ≤ (m.den Γ ρ).asInt.toNat := by omega
      refine done_row (P := P) (xs := (List.replicate (n.den Γ ρ).asInt.toNat zv.cells.toList).flatten) r lt rfl rfl rfl rfl (by rw [hden]; simp) (by rw [hden]; exact hrow) hle (by unfold maxLen; omega) (by rw [size_madeCells, hsz]) ?_
      rw [hsz, ← hzs, madeCells_eq _ (by rw [hzs]; exact hpos)]
      have hlen : ((List.replicate (n.den Γ ρ).asInt.toNat zv.cells.toList).flatten).length = (n.den Γ ρ).asInt.toNat * zv.cells.size := by simp
      have hsplit : List.replicate (m.den Γ ρ).asInt.toNat zv.cells.toList = List.replicate (n.den Γ ρ).asInt.toNat zv.cells.toList ++ List.replicate ((m.den Γ ρ).asInt.toNat - (n.den Γ ρ).asInt.toNat) zv.cells.toList := by
       rw [List.replicate_append_replicate]; congr 1; omega
      rw [hsplit, List.flatten_append, ← hlen, List.take_left]
     ·cases h
    ·cases h
   ·cases h
  ·cases h
 ·cases h
end
end Go.Proofs.YtlhagkbhojmjpaaGreatDoor
namespace Go.Proofs.YtlhagkbhojmjpaaGreatDoor
open Go.RowKit
section
variable {Γ : CEnv} {gt : GT} {ρ : List TV} {B : Nat} {G : Nat → Prop} {st : SS} {as : List Value} {vss : List (Array Value)} {w : World} {P : Program}
def isStrT (P : Program) (t : TypeId) : Bool := match P.underlying t with | some .string => true | _ => false
theorem isStrT_eq {t : TypeId} (h : isStrT P t = true) : P.underlying t = some .string := by
 unfold isStrT at h
 split at h
 ·assumption
 ·cases h
def sConvW (P : Program) (st : SS) (src dst : TypeId) (x : SC) : Option Out := if isStrT P src then (match P.underlying dst, x with
 | some (.slice e), .str s => if isIntT P e .u8 then some ⟨[mk2 .lei (mk1 .slen s) (.int zll)], .sc (.imm true false [.int .u8] (mk1 .bytesOf s)), st.heap, false⟩
  else if isIntT P e .i32 then some (newRow st [mk2 .lei (mk1 .slen s) (.int zll)] st.heap true e false [.int .i32] (mk1 .runesOf s))
  else none
 | _, _ => none) else none
theorem zto (s : ByteArray) : ∀ (n i : Nat) (acc : Array Value), (∀ v ∈ acc.toList, ∃ r : Int, v = .int .i32 r) → ∀ v ∈ (Conv.runesFrom s n i acc).toList, ∃ r : Int, v = .int .i32 r
 | 0, i, acc, h => h
 | n + 1, i, acc, h => by
  unfold Conv.runesFrom
  split
  ·refine zto s n _ _ fun v hv => ?_
   simp only [Array.toList_push, List.mem_append, List.mem_singleton] at hv
   rcases hv with hv | hv
   ·exact h v hv
   ·exact ⟨_, hv⟩
  ·exact h
theorem runes_cells (s : List UInt8) : (Conv.runesFrom ⟨s.toArray⟩ s.length 0 #[]).toList = (zgu s).map fun t => .int .i32 t.asInt := by
 unfold zgu
 rw [List.map_map]
 have h := zto ⟨s.toArray⟩ s.length 0 #[] (fun v hv => by simp at hv)
 revert h
 generalize (Conv.runesFrom ⟨s.toArray⟩ s.length 0 #[]).toList = l
 intro h
 induction l with
 | nil => rfl
 | cons v l ih =>
  obtain ⟨r, rfl⟩ := h v (by simp)
  rw [List.map_cons, ← ih (fun v hv => h v (by simp [hv]))]
  rfl
theorem RowT.of_ints {M : Mem} {k : IntKind} {ts : List TV} : RowT M false [.int k] ts (ts.map fun t => .int k t.asInt) := by
 refine ⟨by simp, fun i hi c hc => ?_⟩
 have hc0 : c = 0 := by simpa using hc
 subst hc0
 refine ⟨.int k ts[i].asInt, by simp [hi], ?_⟩
 exact .int k _
theorem sConvW_sound (r : Rel Γ gt ρ B G st as vss w) {src dst : TypeId} {x : SC} {out : Out} {v : Value} (h : sConvW P st src dst x = some out) (hx : RepC Γ ρ st.heap as (zau w G) (fresh w G B) x v) (hq : Holds Γ ρ out.req) :
  Done P Γ gt ρ B st vss w out ((convert src dst v).run P w) := by
 unfold sConvW at h
 split at h
 ·rename_i hs
  have hs := isStrT_eq hs
  split at h
  ·rename_i e s hd
   simp only [RepC] at hx
   subst hx
   split at h
   ·rename_i he
    have he := z0d he
    simp only [Option.some.injEq] at h
    subst h
    have hq1 := zr7 (zhn hq)
    rw [z65] at hq1
    have hq1 : ((s.den Γ ρ).asStr.length : Int) ≤ 1099511627776 := hq1
    rw [run_bytes_of_string w src dst e _ hs hd he]
    have hsz : (⟨(s.den Γ ρ).asStr.toArray⟩ : ByteArray).size = (s.den Γ ρ).asStr.length := zkh _
    have hge := grownCap_ge w (⟨(s.den Γ ρ).asStr.toArray⟩ : ByteArray).size 0 e
    have hmx := grownCap_le_maxLen w (⟨(s.den Γ ρ).asStr.toArray⟩ : ByteArray).size 0 e (by rw [hsz]; unfold maxLen; omega)
    have r2 := Rel.other r.drew (.cells (bytesRow ⟨(s.den Γ ρ).asStr.toArray⟩ (grownCap w (⟨(s.den Γ ρ).asStr.toArray⟩ : ByteArray).size 0 e)) e ((bytesRow ⟨(s.den Γ ρ).asStr.toArray⟩ (grownCap w (⟨(s.den Γ ρ).asStr.toArray⟩ : ByteArray).size 0 e)).size, (bytesRow ⟨(s.den Γ ρ).asStr.toArray⟩ (grownCap w (⟨(s.den Γ ρ).asStr.toArray⟩ : ByteArray).size 0 e)).size + 1))
    have hbelow : Below w.heap.size w (w.drew.alloc (.cells (bytesRow ⟨(s.den Γ ρ).asStr.toArray⟩ (grownCap w (⟨(s.den Γ ρ).asStr.toArray⟩ : ByteArray).size 0 e)) e ((bytesRow ⟨(s.den Γ ρ).asStr.toArray⟩ (grownCap w (⟨(s.den Γ ρ).asStr.toArray⟩ : ByteArray).size 0 e)).size, (bytesRow ⟨(s.den Γ ρ).asStr.toArray⟩ (grownCap w (⟨(s.den Γ ρ).asStr.toArray⟩ : ByteArray).size 0 e)).size + 1))) := ((Below.refl _ _).drew).alloc (Nat.le_refl _) _
    refine ⟨_, _, _, _, rfl, r2, ?_, hbelow.mono r.base, fun _ => hbelow⟩
    have hden : (((mk1 .bytesOf s).den Γ ρ)).asList = (s.den Γ ρ).asStr.map fun b => TV.int b.toNat := by rw [zi5]; rfl
    have hlen : (((mk1 .bytesOf s).den Γ ρ)).asList.length = (⟨(s.den Γ ρ).asStr.toArray⟩ : ByteArray).size := by rw [hden, hsz]; simp
    have hT := RepT.slice (M := fresh (w.drew.alloc (.cells (bytesRow ⟨(s.den Γ ρ).asStr.toArray⟩ (grownCap w (⟨(s.den Γ ρ).asStr.toArray⟩ : ByteArray).size 0 e)) e ((bytesRow ⟨(s.den Γ ρ).asStr.toArray⟩ (grownCap w (⟨(s.den Γ ρ).asStr.toArray⟩ : ByteArray).size 0 e)).size, (bytesRow ⟨(s.den Γ ρ).asStr.toArray⟩ (grownCap w (⟨(s.den Γ ρ).asStr.toArray⟩ : ByteArray).size 0 e)).size + 1))) G B)
     false [.int .u8] ((mk1 .bytesOf s).den Γ ρ) w.heap.size 0 (grownCap w (⟨(s.den Γ ρ).asStr.toArray⟩ : ByteArray).size 0 e) _ _ _ (fun i _ => .int .u8 (((s.den Γ ρ).asStr.getD i 0).toNat : Int)) ⟨by rw [zj1]; exact if_pos rfl, fun hG => by have := r.gs _ hG; omega, r.base⟩ (by rw [hlen]; exact hge) hmx
     (fun i hi c hc => by
      rw [hlen, hsz] at hi
      have hc0 : c = 0 := by simpa using hc
      subst hc0
      rw [Nat.zero_add, Nat.add_zero, List.length_singleton, Nat.mul_one, bytesRow_at _ _ i (by simpa using hi)]
      simp [hi])
     (fun i hi c hc => by
      have hi2 := hi
      rw [hlen, hsz] at hi2
      have hc0 : c = 0 := by simpa using hc
      subst hc0
      have : ((mk1 .bytesOf s).den Γ ρ).asList[i] = TV.int (((s.den Γ ρ).asStr.getD i 0).toNat : Int) := by
       simp only [hden, List.getElem_map]
       simp [hi2]
      simp only [zbk, List.getElem_cons_zero, this]
      exact .int .u8 (TV.int _))
    rw [hlen] at hT
    exact hT
   ·split at h
    ·rename_i he
     have he := z0d he
     simp only [Option.some.injEq] at h
     subst h
     have hq1 := zr7 (zhn hq)
     rw [z65] at hq1
     have hq1 : ((s.den Γ ρ).asStr.length : Int) ≤ 1099511627776 := hq1
     have hsz : (⟨(s.den Γ ρ).asStr.toArray⟩ : ByteArray).size = (s.den Γ ρ).asStr.length := zkh _
     have hcnt := size_runesFrom ⟨(s.den Γ ρ).asStr.toArray⟩ (⟨(s.den Γ ρ).asStr.toArray⟩ : ByteArray).size 0 #[]
     simp only [Array.size_empty, Nat.zero_add] at hcnt
     rw [run_runes_of_string w src dst e _ hs hd he (by omega)]
     have hge := grownCap_ge w (Conv.runesFrom ⟨(s.den Γ ρ).asStr.toArray⟩ (⟨(s.den Γ ρ).asStr.toArray⟩ : ByteArray).size 0 #[]).size 0 e
     have hmx := grownCap_le_maxLen w (Conv.runesFrom ⟨(s.den Γ ρ).asStr.toArray⟩ (⟨(s.den Γ ρ).asStr.toArray⟩ : ByteArray).size 0 #[]).size 0 e (by unfold maxLen; omega)
     have hden : (((mk1 .runesOf s).den Γ ρ)).asList = zgu (s.den Γ ρ).asStr := by rw [zi5]; rfl
     have hcells := runes_cells (s.den Γ ρ).asStr
     rw [hsz] at *
     have hlen : (Conv.runesFrom ⟨(s.den Γ ρ).asStr.toArray⟩ (s.den Γ ρ).asStr.length 0 #[]).size = (zgu (s.den Γ ρ).asStr).length := by
      have := congrArg List.length hcells
      simpa using this
     refine done_row (P := P) (xs := (zgu (s.den Γ ρ).asStr).map fun t => .int .i32 t.asInt) r (.refl r) (w1 := w.drew) rfl rfl rfl rfl (by rw [hden]; exact hlen) (by rw [hden]; exact RowT.of_ints) hge hmx ?_ ?_
     ·simp only [Array.size_append, Array.size_replicate, List.length_singleton, Nat.mul_one]
      omega
     ·rw [Array.toList_append, List.length_singleton, Nat.mul_one, List.take_append_of_le_length (by simp), List.take_of_length_le (by simp), hcells]
    ·cases h
  ·cases h
 ·cases h
def sopW (P : Program) (gt : GT) (st : SS) (o : Op) : Option Out := match o with
 | .alloc t => match zeroP P t with
  | some z => some (newBox st t z)
  | none => none
 | .box t x => match (ev gt st x).cells with
  | some cs => some (newBox st t cs)
  | none => none
 | .buildSlice t n parts => zyx P gt st t n parts.toList
 | .store t p x => match ev gt st p with
  | .sc s => sStore P st t s (ev gt st x)
  | _ => none
 | .convert src dst x => match ev gt st x with
  | .sc s => sConvW P st src dst s
  | _ => none
 | .makeSlice t l c => match ev gt st l, ev gt st c with
  | .sc a, .sc b => sMake P st t a b
  | _, _ => none
 | .call ⟨.builtin .append, ⟨[x, y]⟩, ⟨[t, t2]⟩⟩ => match ev gt st x, ev gt st y with
  | .sc a, .sc (.str e) => sAppStr P st t t2 a e
  | .sc a, .sc b => sAppend P st t t2 a b
  | _, _ => none
 | .call ⟨.builtin .copy, ⟨[x, y]⟩, ⟨[t, _]⟩⟩ => match ev gt st x, ev gt st y with
  | .sc a, .sc b => sCopy P st t a b
  | _, _ => none
 | _ => none
def sop (P : Program) (gt : GT) (st : SS) (o : Op) : Option Out := match sopR P gt st o with
 | some (req, val) => some ⟨req, val, st.heap, false⟩
 | none => sopW P gt st o
def OpDone (P : Program) (Γ : CEnv) (gt : GT) (ρ : List TV) (B : Nat) (st : SS) (vss : List (Array Value)) (w : World) (out : Out) (res : Result Next) : Prop :=
 ∃ n v as' G' w', res = .ok n w' ∧ (n = .value v ∨ (n = .skip ∧ v = undef)) ∧ Rel Γ gt ρ B G' { st with heap := out.heap } as' vss w' ∧ RepV Γ ρ out.heap as' (zau w' G') (fresh w' G' B) out.val v ∧ Below B w w' ∧ (out.wr = false → Below w.heap.size w w')
theorem OpDone.of {out : Out} {sem : Sem Value} (h : Done P Γ gt ρ B st vss w out (sem.run P w)) : OpDone P Γ gt ρ B st vss w out ((do pure (Next.value (← sem)) : Sem Next).run P w) := by
 obtain ⟨v, as', G', w', h1, h2⟩ := h
 exact ⟨.value v, v, as', G', w', run_v h1, .inl rfl, h2⟩
theorem z9d {a : Act} {o : Oper} (r : Rel Γ gt ρ B G st as (a.tmps :: vss) w) {out : Out} (h : sop P gt st o.op = some out) (hq : Holds Γ ρ out.req) : OpDone P Γ gt ρ B st (a.tmps :: vss) w out ((execOp a.eval o).run P w) := by
 have hev := fun x => ztr r x
 unfold sop at h
 split at h
 ·rename_i req val hR
  simp only [Option.some.injEq] at h
  subst h
  obtain ⟨v, h1, _, h2⟩ := zq4 r hR hq
  exact ⟨_, v, as, G, w, h1, .inl rfl, r, h2, Below.refl _ _, fun _ => Below.refl _ _⟩
 ·unfold sopW at h
  unfold execOp
  split at h
  ·rename_i t ho
   rw [ho]
   split at h
   ·rename_i z hz
    simp only [Option.some.injEq] at h
    subst h
    refine OpDone.of ?_
    unfold zeroP at hz
    cases hi : P.info? t with
    | none => rw [hi] at hz; cases hz
    | some it =>
     rw [hi] at hz
     simp only [Option.bind_some] at hz
     cases hz0 : it.zero with
     | none => rw [hz0] at hz; cases hz
     | some zv =>
      rw [hz0] at hz
      simp only [Option.map_some, Option.some.injEq] at hz
      subst hz
      have hzv : (zeroValue t).run P w = .ok zv w := by simp [zeroValue, typeInfo, hi, hz0]
      have := done_box (P := P) r t (zm7 (Γ := Γ) (ρ := ρ) st.heap as (zau w G) (fresh w G B) zv.cells.toList)
      have hrun : (Instr.alloc t true (.tuple #[])).run P w = .ok (.pointer (some ⟨w.heap.size, 0, none⟩)) (w.alloc (.cells zv.cells t)) := by
       simp only [Instr.alloc, Sem.run_bind, hzv, Result.andThen_ok, newVar, Go.newRow, run_newObj, Sem.run_pure]
       rfl
      rw [hrun]
      exact this
   ·cases h
  ·rename_i t x ho
   rw [ho]
   split at h
   ·rename_i cs hc
    simp only [Option.some.injEq] at h
    subst h
    refine OpDone.of ?_
    have := done_box (P := P) r t (qas hc (hev x))
    have hrun : (Instr.box t (a.eval x)).run P w = .ok (.pointer (some ⟨w.heap.size, 0, none⟩)) (w.alloc (.cells (a.eval x).cells t)) := by
     simp only [Instr.box, Sem.run_bind, newVar, Go.newRow, run_newObj, Sem.run_pure, Result.andThen_ok]
     rfl
    rw [hrun]
    exact this
   ·cases h
  ·rename_i t n parts ho
   rw [ho]
   exact OpDone.of (z4o r h)
  ·rename_i t p x ho
   rw [ho]
   split at h
   ·rename_i s hs
    have h1 := hev p
    rw [hs] at h1
    obtain ⟨as', G', w', k1, k2, k3, k4, k5⟩ := sStore_sound r h h1 (hev x)
    refine ⟨.skip, undef, as', G', w', ?_, .inr ⟨rfl, rfl⟩, k2, by rw [k3]; exact trivial, k4, fun h => by rw [k5] at h; cases h⟩
    simp only [Sem.run_bind, k1, Result.andThen_ok, Sem.run_pure]
   ·cases h
  ·rename_i src dst x ho
   rw [ho]
   split at h
   ·rename_i s hs
    have h1 := hev x
    rw [hs] at h1
    exact OpDone.of (sConvW_sound r h h1 hq)
   ·cases h
  ·rename_i t l c ho
   rw [ho]
   split at h
   ·rename_i s1 s2 e1 e2
    have h1 := hev l
    have h2 := hev c
    rw [e1] at h1
    rw [e2] at h2
    exact OpDone.of (sMake_sound r h h1 h2 hq)
   ·cases h
  ·rename_i x y t t2 ho
   rw [ho]
   have e : (do let d ← resolve a.eval ⟨.builtin .append, ⟨[x, y]⟩, ⟨[t, t2]⟩⟩ o.type; invoke d.target d.args : Sem Next).run P w = (do pure (Next.value (← Builtin.append_ #[t, t2] o.type #[a.eval x, a.eval y])) : Sem Next).run P w := by
    simp only [resolve, invoke, builtin, Sem.run_bind, Sem.run_pure, Result.andThen_ok, List.map_toArray, List.map_cons, List.map_nil]
   split at h
   ·rename_i s1 x2 e1 e2
    have h1 := hev x
    have h2 := hev y
    rw [e1] at h1
    rw [e2] at h2
    have h2 : a.eval y = .string ⟨(x2.den Γ ρ).asStr.toArray⟩ := h2
    have := (sAppStr_sound (ty := o.type) r h h1 hq).1
    rw [← h2] at this
    have hh := OpDone.of this
    dsimp only
    rw [e]
    exact hh
   ·rename_i s1 s2 _ e1 e2
    have h1 := hev x
    have h2 := hev y
    rw [e1] at h1
    rw [e2] at h2
    have := (sAppend_sound (ty := o.type) r h h1 h2 hq).1
    have hh := OpDone.of this
    dsimp only
    rw [e]
    exact hh
   ·cases h
  ·rename_i x y t t2 ho
   rw [ho]
   have e : (do let d ← resolve a.eval ⟨.builtin .copy, ⟨[x, y]⟩, ⟨[t, t2]⟩⟩ o.type; invoke d.target d.args : Sem Next).run P w = (do pure (Next.value (← Builtin.copy_ #[t, t2] o.type #[a.eval x, a.eval y])) : Sem Next).run P w := by
    simp only [resolve, invoke, builtin, Sem.run_bind, Sem.run_pure, Result.andThen_ok, List.map_toArray, List.map_cons, List.map_nil]
   split at h
   ·rename_i s1 s2 e1 e2
    have h1 := hev x
    have h2 := hev y
    rw [e1] at h1
    rw [e2] at h2
    have hh := OpDone.of (sCopy_sound (ty := o.type) (t2 := t2) r h h1 h2)
    dsimp only
    rw [e]
    exact hh
   ·cases h
  ·cases h
def SS.put (st : SS) (dst : Option Tmp) (v : SV) : SS := match dst, st.frames with
 | some d, f :: fs => { st with frames := f.set d v :: fs }
 | _, _ => st
theorem Rel.put {a : Act} (r : Rel Γ gt ρ B G st as (a.tmps :: vss) w) (dst : Option Tmp) {s : SV} {v : Value} (h : RepV Γ ρ st.heap as (zau w G) (fresh w G B) s v) : Rel Γ gt ρ B G (st.put dst s) as ((a.put dst v).tmps :: vss) w := by
 cases dst with
 | none => exact r
 | some d =>
  unfold SS.put Act.put
  cases hf : st.frames with
  | nil => have := r.frames.1; rw [hf] at this; simp at this
  | cons f fs =>
   have hfr := r.frames
   rw [hf] at hfr
   refine ⟨r.nv, ?_, r.alen, r.blks, r.own, r.dist, r.base, r.gs, r.globs⟩
   refine All2.cons ?_ (by simpa using hfr.drop 1)
   have h0 := hfr.2 0 f a.tmps rfl rfl
   rw [Array.toList_setIfInBounds]
   exact h0.set d h
end
end Go.Proofs.YtlhagkbhojmjpaaGreatDoor
