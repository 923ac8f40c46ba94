/- Symbolic runs, part f: slices, conversions, lengths, and all operations that leave memory as it is together. -/
import Derived.Test.YtccpepheooleoaaDoorSe
import Derived.Laws.Cover4
import Derived.Laws.IdiomStrings
namespace Go.Proofs.YtccpepheooleoaaDoor
set_option linter.unusedSimpArgs false
set_option linter.unusedVariables false
set_option linter.unusedSectionVars false
open Go.RowKit

section
variable {Γ : CEnv} {gt : GT} {ρ : List TV} {B : Nat} {G : Nat → Prop} {st : SS} {as : List Value} {vss : List (Array Value)} {w : World} {P : Program}

/-! ### Parts of strings and slices -/
def bnd : Option SV → E → Option E
  | none, d => some d
  | some (.sc (.int _ e)), _ => some e
  | _, _ => none
def bndReq (lo hi : Option SV) (l h n : E) : List E :=
  (match lo with | none => [] | some _ => [mk2 .lei (.int 0) l, mk2 .lei l h]) ++ (match hi with | none => [] | some _ => [mk2 .lei (.int 0) h, mk2 .lei h n])
def RepO (Γ : CEnv) (ρ : List TV) (hp : List Blk) (as : List Value) (M Mf : Mem) : Option SV → Option Value → Prop
  | none, none => True
  | some s, some v => RepV Γ ρ hp as M Mf s v
  | _, _ => False
theorem bnd_some {s : SV} {d e : E} (h : bnd (some s) d = some e) : ∃ k, s = .sc (.int k e) := by
  cases s with
  | sc s => cases s <;> simp only [bnd, Option.some.injEq, reduceCtorEq] at h; exact ⟨_, by rw [h]⟩
  | agg _ => simp [bnd] at h
  | tup _ => simp [bnd] at h
theorem le_den {a b : E} (h : ((mk2 .lei a b).den Γ ρ).asBool = true) : (a.den Γ ρ).asInt ≤ (b.den Γ ρ).asInt := by
  rw [mk2_den] at h
  exact of_decide_eq_true h
theorem run_bounds {hp : List Blk} {as : List Value} {M Mf : Mem} {lo hi : Option SV} {vlo vhi : Option Value} {l h n : E} (isSlice : Bool) (len cap : Nat) (hl : bnd lo (.int 0) = some l) (hh : bnd hi n = some h)
    (rl : RepO Γ ρ hp as M Mf lo vlo) (rh : RepO Γ ρ hp as M Mf hi vhi) (hn : (n.den Γ ρ).asInt = len) (hc : len ≤ cap) (hq : Holds Γ ρ (bndReq lo hi l h n)) :
    (∀ w : World, (Instr.sliceBounds isSlice len cap vlo vhi none).run P w = .ok ((l.den Γ ρ).asInt.toNat, (h.den Γ ρ).asInt.toNat, cap) w) ∧ 0 ≤ (l.den Γ ρ).asInt ∧ (l.den Γ ρ).asInt ≤ (h.den Γ ρ).asInt ∧ (h.den Γ ρ).asInt ≤ len := by
  have hin : ∀ e ∈ bndReq lo hi l h n, (e.den Γ ρ).asBool = true := hq
  have z : ((E.int 0).den Γ ρ).asInt = 0 := rfl
  have H : ((hi = none ∧ vhi = none ∧ h = n) ∨ ∃ k, vhi = some (.int k (h.den Γ ρ).asInt) ∧ 0 ≤ (h.den Γ ρ).asInt) ∧ (h.den Γ ρ).asInt ≤ len := by
    cases hi with
    | none =>
      cases vhi with
      | some v => exact rh.elim
      | none =>
        simp only [bnd, Option.some.injEq] at hh
        subst hh
        exact ⟨.inl ⟨rfl, rfl, rfl⟩, by omega⟩
    | some s =>
      cases vhi with
      | none => exact rh.elim
      | some v =>
        obtain ⟨k, rfl⟩ := bnd_some hh
        simp only [RepO, RepV, RepC] at rh
        subst rh
        have h1 := le_den (hin (mk2 .lei (.int 0) h) (by simp [bndReq]))
        have h2 := le_den (hin (mk2 .lei h n) (by simp [bndReq]))
        rw [hn] at h2
        rw [z] at h1
        exact ⟨.inr ⟨k, rfl, h1⟩, h2⟩
  have L : ((lo = none ∧ vlo = none ∧ l = .int 0) ∨ ∃ k, vlo = some (.int k (l.den Γ ρ).asInt) ∧ (l.den Γ ρ).asInt ≤ (h.den Γ ρ).asInt) ∧ 0 ≤ (l.den Γ ρ).asInt := by
    cases lo with
    | none =>
      cases vlo with
      | some v => exact rl.elim
      | none =>
        simp only [bnd, Option.some.injEq] at hl
        subst hl
        exact ⟨.inl ⟨rfl, rfl, rfl⟩, by rw [z]; exact Int.le_refl _⟩
    | some s =>
      cases vlo with
      | none => exact rl.elim
      | some v =>
        obtain ⟨k, rfl⟩ := bnd_some hl
        simp only [RepO, RepV, RepC] at rl
        subst rl
        have h1 := le_den (hin (mk2 .lei (.int 0) l) (by simp [bndReq]))
        have h2 := le_den (hin (mk2 .lei l h) (by simp [bndReq]))
        rw [z] at h1
        exact ⟨.inr ⟨k, rfl, h2⟩, h1⟩
  obtain ⟨H1, H2⟩ := H
  obtain ⟨L1, L2⟩ := L
  rcases H1 with ⟨_, rfl, rfl⟩ | ⟨kh, rfl, H3⟩
  · rcases L1 with ⟨_, rfl, rfl⟩ | ⟨kl, rfl, L3⟩
    · refine ⟨fun w => ?_, L2, by rw [z, hn]; omega, H2⟩
      simp only [Instr.sliceBounds, Sem.run_bind, Sem.run_pure, Result.andThen_ok, z, hn, Int.toNat_natCast]
      rfl
    · refine ⟨fun w => ?_, L2, L3, H2⟩
      rw [hn] at L3
      simp only [Instr.sliceBounds, Sem.run_bind, Sem.run_pure, Result.andThen_ok, run_sliceBound w kl _ len _ L2 L3, hn, Int.toNat_natCast]
  · have e1 : (((h.den Γ ρ).asInt.toNat : Nat) : Int) = (h.den Γ ρ).asInt := Int.toNat_of_nonneg H3
    rcases L1 with ⟨_, rfl, rfl⟩ | ⟨kl, rfl, L3⟩
    · refine ⟨fun w => ?_, L2, by rw [z]; exact H3, H2⟩
      simp only [Instr.sliceBounds, Sem.run_bind, Sem.run_pure, Result.andThen_ok, run_sliceBound w kh _ cap _ H3 (by omega), z]
      rfl
    · refine ⟨fun w => ?_, L2, L3, H2⟩
      simp only [Instr.sliceBounds, Sem.run_bind, Sem.run_pure, Result.andThen_ok, run_sliceBound w kh _ cap _ H3 (by omega), run_sliceBound w kl _ (h.den Γ ρ).asInt.toNat _ L2 (by rw [e1]; exact L3)]

theorem RepT.sub {M : Mem} {ag : Bool} {cs : List CT} {t : TV} {a : Option Addr} {cap : Nat} (r : RepT M (.slice ag cs) t (.slice a t.asList.length cap)) (l h : Nat) (h1 : l ≤ h) (h2 : h ≤ t.asList.length) :
    RepT M (.slice ag cs) (.list ((t.asList.drop l).take (h - l))) (.slice (if cap = l then a else a.map (·.add (l * cs.length))) (h - l) (cap - l)) := by
  generalize hv : Value.slice a t.asList.length cap = v at r
  by_cases he : h - l = 0
  · rw [he]
    refine .empty _ _ _ _ _ (by simp [asList_list]) ?_ ?_
    · intro hn
      have ha : a = none := by
        split at hn
        · exact hn
        · cases a <;> simp_all
      cases r with
      | empty ag cs t a' cap' q1 q2 q3 => injection hv with e1 e2 e3; subst e1 e3; have := q2 ha; omega
      | slice => injection hv with e1; rw [ha] at e1; cases e1
    · cases r with
      | empty ag cs t a' cap' q1 q2 q3 => injection hv with e1 e2 e3; omega
      | slice => injection hv with e1 e2 e3; omega
  · cases r with
    | empty ag cs t a' cap' q1 q2 q3 => rw [q1] at h2; simp at h2; omega
    | slice ag cs t g off cap' cur el fr vals q1 q2 q3 q4 q5 =>
      injection hv with e1 e2 e3
      subst e1 e3
      rw [if_neg (by omega)]
      simp only [Option.map_some, Addr.add_lit]
      have hlen : (TV.list ((t.asList.drop l).take (h - l))).asList.length = h - l := by rw [asList_list, List.length_take, List.length_drop]; omega
      have := RepT.slice (M := M) ag cs (.list ((t.asList.drop l).take (h - l))) g (off + l * cs.length) (cap - l) cur el fr (fun i c => vals (l + i) c) q1 (by rw [hlen]; omega) (by omega)
        (fun i hi c hc => by
          rw [hlen] at hi
          have := q4 (l + i) (by omega) c hc
          rw [Nat.add_mul] at this
          rw [Nat.add_assoc off, Nat.add_assoc, Nat.add_assoc] at *
          exact this)
        (fun i hi c hc => by
          have hi' := hi
          rw [hlen] at hi'
          have := q5 (l + i) (by omega) c hc
          have e : (TV.list ((t.asList.drop l).take (h - l))).asList[i] = t.asList[l + i]'(by omega) := by simp only [asList_list, List.getElem_take, List.getElem_drop]
          rw [e]; exact this)
      rw [hlen] at this
      exact this

theorem i64_add {x y : Int} (h0 : 0 ≤ x) (h1 : 0 ≤ y) (h2 : x + y ≤ maxLen) : IntKind.i64.wrap (x + y) = x + y := by
  rw [IntKind.wrap_i64]; unfold maxLen at h2; omega

def sSlice (P : Program) (st : SS) (t : TypeId) (x : SV) (lo hi : Option SV) : Option (List E × SC) := match x, P.underlying t with
  | .sc (.str e), some .string => match bnd lo (.int 0), bnd hi (mk1 .slen e) with
    | some l, some h => some (bndReq lo hi l h (mk1 .slen e), .str (.o3 .ssub e l h))
    | _, _ => none
  | .sc (.own b ver), some (.slice el) => match st.heap[b]? with
    | some blk => match blk.cont with
      | .row c => if Nat.beq blk.ver ver && sizeB P el blk.cs.length then (match bnd lo (.int 0), bnd hi (mk1 .len c) with
        | some l, some h => some (bndReq lo hi l h (mk1 .len c), .sub b ver l h)
        | _, _ => none) else none
      | _ => none
    | none => none
  | .sc (.imm fr ag cs c), some (.slice el) => if sizeB P el cs.length then (match bnd lo (.int 0), bnd hi (mk1 .len c) with
    | some l, some h => some (bndReq lo hi l h (mk1 .len c), .imm fr ag cs (subE c l h))
    | _, _ => none) else none
  | _, _ => none
theorem run_slice_row {t e : TypeId} {n : Nat} (hu : P.underlying t = some (.slice e)) (hs : sizeP P e = some n) {a : Option Addr} {len cap l h m : Nat} {lo hi : Option Value}
    (hb : (Instr.sliceBounds true len cap lo hi none).run P w = .ok (l, h, m) w) : (Instr.sliceAt t (.slice a len cap) lo hi none).run P w = .ok (.slice (if m = l then a else a.map (·.add (l * n))) (h - l) (m - l)) w := by
  simp only [Instr.sliceAt, Instr.slice, Sem.run_bind, run_underlying hu, Result.andThen_ok, hb, run_sizeOf hs, Sem.run_pure]
theorem sSlice_sound (r : Rel Γ gt ρ B G st as vss w) {t : TypeId} {x : SV} {lo hi : Option SV} {y : SC} {req : List E} {v : Value} {vlo vhi : Option Value} (h : sSlice P st t x lo hi = some (req, y)) (hx : RepV Γ ρ st.heap as (stable w G) (fresh w G B) x v)
    (hlo : RepO Γ ρ st.heap as (stable w G) (fresh w G B) lo vlo) (hhi : RepO Γ ρ st.heap as (stable w G) (fresh w G B) hi vhi) (hq : Holds Γ ρ req) :
    ∃ u, (∀ w : World, (Instr.sliceAt t v vlo vhi none).run P w = .ok u w) ∧ RepC Γ ρ st.heap as (stable w G) (fresh w G B) y u := by
  unfold sSlice at h
  split at h
  · rename_i e hu
    split at h
    · rename_i l h' b1 b2
      simp only [Option.some.injEq, Prod.mk.injEq] at h
      obtain ⟨rfl, rfl⟩ := h
      simp only [RepV, RepC] at hx
      subst hx
      have hlen : (((mk1 .slen e).den Γ ρ)).asInt = (⟨(e.den Γ ρ).asStr.toArray⟩ : ByteArray).size := by rw [mk1_den, bytes_size]; rfl
      obtain ⟨k1, k2, k3, k4⟩ := run_bounds (P := P) false _ (⟨(e.den Γ ρ).asStr.toArray⟩ : ByteArray).size b1 b2 hlo hhi hlen (Nat.le_refl _) hq
      refine ⟨.string ((⟨(e.den Γ ρ).asStr.toArray⟩ : ByteArray).extract (l.den Γ ρ).asInt.toNat (h'.den Γ ρ).asInt.toNat), fun w => ?_, ?_⟩
      · simp only [Instr.sliceAt, Instr.slice, Sem.run_bind, run_underlying hu, Result.andThen_ok, Option.isSome_none, Bool.false_eq_true, if_false, Sem.run_pure, k1]
      · simp only [RepC]
        rw [ByteArray.extract_mk]
        rfl
    · cases h
  · rename_i b ver el hu
    split at h
    · rename_i blk hb
      split at h
      · rename_i c hc
        split at h
        · rename_i hcond
          simp only [Bool.and_eq_true] at hcond
          split at h
          · rename_i l h' b1 b2
            simp only [Option.some.injEq, Prod.mk.injEq] at h
            obtain ⟨rfl, rfl⟩ := h
            obtain ⟨ho, blk', va, h1, h2, h3, h4⟩ := hx
            rw [hb] at h1
            injection h1 with h1
            subst h1
            obtain ⟨rfl, _⟩ := h4 (Nat.eq_of_beq_eq_true hcond.1)
            have hread := rowOf_reads r (s := .own b ver) (row := ⟨blk.fr, blk.ag, blk.cs, c⟩) (by simp only [rowOf, hb, hcond.1, if_true, hc]) ⟨ho, blk, _, hb, h2, h3, h4⟩
            have hhead : HeadOrNil v := by
              have hbr := r.blks b blk v hb h2
              unfold BlkRel at hbr
              rw [hc] at hbr
              dsimp only at hbr
              split at hbr
              · obtain ⟨xs, q1, q2⟩ := hbr; exact (Reads.of_own q1 q2).2
              · exact hbr.2
            obtain ⟨a, cap, xs, e0, l1, l2, l3, _⟩ := hread
            dsimp only at e0 l1
            rw [e0]
            obtain ⟨k1, k2, k3, k4⟩ := run_bounds (P := P) true (c.den Γ ρ).asList.length cap b1 b2 hlo hhi len_den l1 hq
            have en : (h'.den Γ ρ).asInt.toNat - (l.den Γ ρ).asInt.toNat = ((h'.den Γ ρ).asInt - (l.den Γ ρ).asInt).toNat := by omega
            refine ⟨_, fun w => run_slice_row hu (sizeB_eq hcond.2) (k1 w), rfl, blk, v, hb, h2, h3, fun _ => ⟨⟨_, by simp only [Blk.len, hc], k2, k3, k4, (if cap = (l.den Γ ρ).asInt.toNat then a else a.map (·.add ((l.den Γ ρ).asInt.toNat * blk.cs.length))), cap - (l.den Γ ρ).asInt.toNat, by rw [en], by omega, by omega, ?_, ?_⟩, c, hc⟩⟩
            · intro hn
              have ha : a = none := by
                split at hn
                · exact hn
                · cases a <;> simp_all
              have := l3 ha
              omega
            · by_cases hlh : (l.den Γ ρ).asInt = (h'.den Γ ρ).asInt
              · exact .inl hlh
              · right
                rcases hhead with hh | ⟨g, ll, cc, hh⟩
                · rw [hh] at e0
                  injection e0 with e1 e2
                  omega
                · rw [hh] at e0
                  injection e0 with e1 e2 e3
                  refine ⟨g, ll, cc, hh, ?_⟩
                  rw [if_neg (by omega), ← e1]
                  simp only [Option.map_some, Addr.add_lit, Blk.size, hc, Nat.zero_add]
          · cases h
        · cases h
      · cases h
    · cases h
  · rename_i fr ag cs c el hu
    split at h
    · rename_i hcond
      split at h
      · rename_i l h' b1 b2
        simp only [Option.some.injEq, Prod.mk.injEq] at h
        obtain ⟨rfl, rfl⟩ := h
        have hx0 : RepT (pick (stable w G) (fresh w G B) fr) (.slice ag cs) (c.den Γ ρ) v := hx
        obtain ⟨a, cap, xs, e0, l1, l2, l3, _⟩ := RepT.reads (pick_of (stable_of w G) (fresh_of w G B) _) hx0
        rw [e0] at hx0 ⊢
        obtain ⟨k1, k2, k3, k4⟩ := run_bounds (P := P) true (c.den Γ ρ).asList.length cap b1 b2 hlo hhi len_den l1 hq
        refine ⟨_, fun w => run_slice_row hu (sizeB_eq hcond) (k1 w), ?_⟩
        exact RepT.sub hx0 _ _ (by omega) (by omega)
      · cases h
    · cases h
  · cases h

/-! ### Conversions, lengths, indices of strings -/
theorem RowT.ints {M : Mem} {k : IntKind} {ts : List TV} {xs : List Value} (h : RowT M false [.int k] ts xs) : xs = ts.map fun t => .int k t.asInt := by
  apply List.ext_getElem?
  intro i
  rw [List.getElem?_map]
  by_cases hi : i < ts.length
  · obtain ⟨v, h1, h2⟩ := h.2 i hi 0 (by simp)
    simp only [List.length_singleton, Nat.mul_one, Nat.add_zero] at h1
    rw [h1, List.getElem?_eq_getElem hi]
    simp only [List.getElem_cons_zero, elemCell] at h2
    cases h2
    rfl
  · have := h.1
    simp only [List.length_singleton, Nat.mul_one] at this
    rw [List.getElem?_eq_none (by omega), List.getElem?_eq_none (by omega)]
    rfl
theorem Reads.load {M : Mem} {ag : Bool} {cs : List CT} {ts : List TV} {v : Value} (h : Reads M w ag cs ts v) : ∃ (a : Option Addr) (cap : Nat) (xs : List Value), v = .slice a ts.length cap ∧ RowT M ag cs ts xs ∧
    (a = none → ts = [] ∧ xs = []) ∧ ∀ ad, a = some ad → ∀ (j : Nat) (u : Value), xs[j]? = some u → w.cell? (ad.add j) = some u := by
  obtain ⟨a, cap, xs, e0, l1, l2, l3, hr, hc⟩ := h
  refine ⟨a, cap, xs, e0, hr, fun ha => ?_, fun ad ha j u hu => ?_⟩
  · have : ts = [] := List.eq_nil_of_length_eq_zero (by have := l3 ha; omega)
    subst this
    exact ⟨rfl, List.eq_nil_of_length_eq_zero (by simpa using hr.1)⟩
  · obtain ⟨g, off, h1, h2⟩ := hc j u hu
    rw [ha] at h1
    injection h1 with h1
    rw [h1, Addr.add_lit]
    exact h2
theorem foldl_push_ints : ∀ (l : List Int) (r : ByteArray), l.foldl (fun r n => r.push (UInt8.ofNat n.toNat)) r = ⟨r.data ++ (l.map fun n => UInt8.ofNat n.toNat).toArray⟩
  | [], r => by simp
  | b :: l, r => by
    simp only [List.foldl_cons]
    rw [foldl_push_ints l]
    simp [ByteArray.push]
theorem foldl_app_runes : ∀ (l : List Int) (r : ByteArray), l.foldl (fun r n => r ++ Utf8.encode n) r = ⟨r.data ++ (l.flatMap fun n => (Utf8.encode n).data.toList).toArray⟩
  | [], r => by simp
  | b :: l, r => by
    simp only [List.foldl_cons]
    rw [foldl_app_runes l]
    apply ByteArray.ext
    apply Array.ext'
    simp [ByteArray.data_append]
def CT.isInt (c : CT) (k : IntKind) : Bool := match c with
  | .int k' => keq k' k
  | _ => false
theorem CT.isInt_eq {c : CT} {k : IntKind} (h : c.isInt k = true) : c = .int k := by
  cases c with
  | int k' => rw [keq_eq (show keq k' k = true from h)]
  | _ => cases h
def isIntT (P : Program) (t : TypeId) (k : IntKind) : Bool := match P.underlying t with
  | some (.int k') => keq k' k
  | _ => false
theorem isIntT_eq {t : TypeId} {k : IntKind} (h : isIntT P t k = true) : P.underlying t = some (.int k) := by
  unfold isIntT at h
  split at h
  · rename_i k' hu; rw [hu, keq_eq h]
  · cases h
def intRow (hp : List Blk) (k : IntKind) (s : SC) : Option E := match s with
  | .nil => some .nil
  | s => match rowOf hp s with
    | some row => if row.ag then none else (match row.cs with
      | [c] => if c.isInt k then some row.e else none
      | _ => none)
    | none => none
theorem intRow_load (r : Rel Γ gt ρ B G st as vss w) {k : IntKind} {s : SC} {e : E} {v : Value} (h : intRow st.heap k s = some e) (hs : RepC Γ ρ st.heap as (stable w G) (fresh w G B) s v) :
    ∃ (a : Option Addr) (cap : Nat), v = .slice a (e.den Γ ρ).asList.length cap ∧ (a = none → (e.den Γ ρ).asList = []) ∧ ∀ ad, a = some ad → (loadCells ad (e.den Γ ρ).asList.length).run P w = .ok ((e.den Γ ρ).asList.map fun t => Value.int k t.asInt).toArray w := by
  unfold intRow at h
  split at h
  · simp only [Option.some.injEq] at h
    subst h
    exact ⟨none, 0, hs, fun _ => rfl, fun ad h => by cases h⟩
  · split at h
    · rename_i row hrow
      split at h
      · cases h
      · rename_i hag
        split at h
        · rename_i c hcs
          split at h
          · rename_i hk
            simp only [Option.some.injEq] at h
            subst h
            have hread := rowOf_reads r hrow hs
            rw [hcs, CT.isInt_eq hk, show row.ag = false by simpa using hag] at hread
            obtain ⟨a, cap, xs, e0, hr, hn, hc⟩ := hread.load
            refine ⟨a, cap, e0, fun ha => (hn ha).1, fun ad ha => ?_⟩
            have hx := hr.ints
            have hl := run_loadCells_list (P := P) w ad xs (hc ad ha)
            rw [show xs.length = (row.e.den Γ ρ).asList.length by rw [hx]; simp] at hl
            rw [hl, hx]
          · cases h
        · cases h
    · cases h

def sConv (P : Program) (st : SS) (src dst : TypeId) (x : SC) : Option SC := match P.underlying src, P.underlying dst with
  | some sd, some (.int k) => match x with
    | .int _ e => some (.int k (mk1 (.wrap k) e))
    | _ => none
  | some (.slice el), some .string =>
    if isIntT P el .u8 then (match intRow st.heap .u8 x with
      | some e => some (.str (mk1 .strOf e))
      | none => none)
    else if isIntT P el .i32 then (match intRow st.heap .i32 x with
      | some e => some (.str (mk1 .ofRunes e))
      | none => none)
    else none
  | some sd, some .string => match x with
    | .int _ e => some (.str (mk1 .ofRune e))
    | .str e => some (.str e)
    | _ => none
  | _, _ => none
def SC.plain : SC → Bool
  | .int .. => true
  | .str .. => true
  | _ => false
theorem sConv_sound (r : Rel Γ gt ρ B G st as vss w) {src dst : TypeId} {x y : SC} {v : Value} (h : sConv P st src dst x = some y) (hx : RepC Γ ρ st.heap as (stable w G) (fresh w G B) x v) :
    ∃ u, (convert src dst v).run P w = .ok u w ∧ (x.plain = true → ∀ w : World, (convert src dst v).run P w = .ok u w) ∧ RepC Γ ρ st.heap as (stable w G) (fresh w G B) y u := by
  unfold sConv at h
  split at h
  · rename_i sd k hs hd
    split at h
    · rename_i k' e
      simp only [Option.some.injEq] at h
      subst h
      simp only [RepC] at hx
      subst hx
      have key : ∀ w : World, (convert src dst (.int k' (e.den Γ ρ).asInt)).run P w = .ok (.int k ((mk1 (.wrap k) e).den Γ ρ).asInt) w := fun w => by
        simp only [convert, Sem.run_bind, run_underlying hs, run_underlying hd, Result.andThen_ok, mk1_den, P1.den, asInt_int]
        rfl
      exact ⟨_, key w, fun _ => key, rfl⟩
    · cases h
  · rename_i el hs hd
    split at h
    · rename_i hk
      have he := isIntT_eq hk
      split at h
      · rename_i e hrow
        simp only [Option.some.injEq] at h
        subst h
        have hpl : x.plain = false := by
          unfold intRow at hrow
          cases x <;> first | rfl | (simp [rowOf] at hrow)
        obtain ⟨a, cap, rfl, hn, hl⟩ := intRow_load (P := P) r hrow hx
        refine ⟨_, ?_, (fun h => by rw [hpl] at h; cases h), rfl⟩
        rw [run_convert_bytes_string w src dst el _ _ _ hs he hd, mk1_den]
        cases a with
        | none =>
          rw [hn rfl]
          simp only [Conv.bytesToString, P1.den, asStr_str, hn rfl]
          rfl
        | some ad =>
          have := hl ad rfl
          rw [show ((e.den Γ ρ).asList.map fun t => Value.int .u8 t.asInt) = ((e.den Γ ρ).asList.map TV.asInt).map (Value.int .u8) by rw [List.map_map]; rfl] at this
          rw [run_bytesToString w ad _ cap _ this, foldl_push_ints]
          simp only [P1.den, asStr_str, List.map_map]
          have e0 : ByteArray.empty.data = #[] := rfl
          rw [e0]
          simp [byteOf, Function.comp_def]
      · cases h
    · split at h
      · rename_i hk
        have he := isIntT_eq hk
        split at h
        · rename_i e hrow
          simp only [Option.some.injEq] at h
          subst h
          have hpl : x.plain = false := by
            unfold intRow at hrow
            cases x <;> first | rfl | (simp [rowOf] at hrow)
          obtain ⟨a, cap, rfl, hn, hl⟩ := intRow_load (P := P) r hrow hx
          refine ⟨_, ?_, (fun h => by rw [hpl] at h; cases h), rfl⟩
          rw [run_convert_runes_string w src dst el _ _ _ hs he hd, mk1_den]
          cases a with
          | none =>
            rw [hn rfl]
            simp only [Conv.runesToString, P1.den, asStr_str, hn rfl]
            rfl
          | some ad =>
            have := hl ad rfl
            rw [show ((e.den Γ ρ).asList.map fun t => Value.int .i32 t.asInt) = ((e.den Γ ρ).asList.map TV.asInt).map (Value.int .i32) by rw [List.map_map]; rfl] at this
            rw [run_runesToString w ad _ cap _ this, runesBytes, foldl_app_runes]
            simp only [P1.den, asStr_str]
            have e0 : ByteArray.empty.data = #[] := rfl
            rw [e0]
            simp [List.flatMap_map]
        · cases h
      · cases h
  · rename_i sd hne hs hd
    split at h
    · rename_i k' e
      simp only [Option.some.injEq] at h
      subst h
      simp only [RepC] at hx
      subst hx
      have key : ∀ w : World, (convert src dst (.int k' (e.den Γ ρ).asInt)).run P w = .ok (.string ⟨((mk1 .ofRune e).den Γ ρ).asStr.toArray⟩) w := fun w => by
        simp only [convert, Sem.run_bind, run_underlying hs, run_underlying hd, Result.andThen_ok, mk1_den, P1.den, asStr_str]
        rfl
      exact ⟨_, key w, fun _ => key, rfl⟩
    · rename_i e
      simp only [Option.some.injEq] at h
      subst h
      simp only [RepC] at hx
      subst hx
      have key : ∀ w : World, (convert src dst (.string ⟨(e.den Γ ρ).asStr.toArray⟩)).run P w = .ok (.string ⟨(e.den Γ ρ).asStr.toArray⟩) w := fun w => by
        simp only [convert, Sem.run_bind, run_underlying hs, run_underlying hd, Result.andThen_ok]
        rfl
      exact ⟨_, key w, fun _ => key, rfl⟩
    · cases h
  · cases h

def sIndex (P : Program) (t : TypeId) (x ix : SC) : Option (List E × SC) := match x, ix, P.underlying t with
  | .str e, .int _ i, some .string => some (rng i (.int 0) (mk1 .slen e), .int .u8 (mk2 .sidx e i))
  | _, _, _ => none
theorem slen_den {e : E} : ((mk1 .slen e).den Γ ρ).asInt = (e.den Γ ρ).asStr.length := by rw [mk1_den]; rfl
theorem sIndex_sound {hp : List Blk} {as : List Value} {M Mf : Mem} {t : TypeId} {x ix y : SC} {req : List E} {v vi : Value} (h : sIndex P t x ix = some (req, y)) (hx : RepC Γ ρ hp as M Mf x v) (hi : RepC Γ ρ hp as M Mf ix vi) (hq : Holds Γ ρ req) :
    ∃ u, (∀ w : World, (Instr.index t v vi).run P w = .ok u w) ∧ RepC Γ ρ hp as M Mf y u := by
  unfold sIndex at h
  split at h
  · rename_i e k i hu
    simp only [Option.some.injEq, Prod.mk.injEq] at h
    obtain ⟨rfl, rfl⟩ := h
    simp only [RepC] at hx hi
    subst hx hi
    have hr := rng_holds hq
    rw [slen_den] at hr
    simp only [E.den, asInt_int] at hr
    have hlt : (i.den Γ ρ).asInt.toNat < (e.den Γ ρ).asStr.length := by omega
    have hget : (⟨(e.den Γ ρ).asStr.toArray⟩ : ByteArray)[(i.den Γ ρ).asInt.toNat]? = some ((e.den Γ ρ).asStr[(i.den Γ ρ).asInt.toNat]) := by
      rw [ByteArray.getElem?_lt' _ _ (by rw [bytes_size]; exact hlt)]
      rfl
    refine ⟨_, fun w => ?_, rfl⟩
    simp only [Instr.index, asIntOf, Sem.run_bind, Sem.run_pure, Result.andThen_ok, run_underlying hu, if_pos hr.1, hget, mk2_den, P2.den, asInt_int]
    rw [List.getD_eq_getElem?_getD, List.getElem?_eq_getElem hlt]
    rfl
  · cases h

def lenC (hp : List Blk) : SC → Option E
  | .nil => some (.int 0)
  | .str e => some (mk1 .slen e)
  | s => match rowOf hp s with
    | some row => some (mk1 .len row.e)
    | none => none
def sLen (P : Program) (st : SS) (t : TypeId) (x : SC) : Option SC := match P.underlying t with
  | some .string => match x with
    | .str e => some (.int .i64 (mk1 .slen e))
    | _ => none
  | some (.slice _) => match x with
    | .nil => some (.int .i64 (.int 0))
    | s => match rowOf st.heap s with
      | some row => some (.int .i64 (mk1 .len row.e))
      | none => none
  | some (.array n _) => some (.int .i64 (.int n))
  | _ => none
theorem sLen_sound (r : Rel Γ gt ρ B G st as vss w) {t ty : TypeId} {x y : SC} {v : Value} (h : sLen P st t x = some y) (hx : RepC Γ ρ st.heap as (stable w G) (fresh w G B) x v) :
    ∃ u, (∀ w : World, (Builtin.len_ #[t] ty #[v]).run P w = .ok u w) ∧ RepC Γ ρ st.heap as (stable w G) (fresh w G B) y u := by
  unfold sLen at h
  split at h
  · rename_i hu
    split at h
    · rename_i e
      simp only [Option.some.injEq] at h
      subst h
      simp only [RepC] at hx
      subst hx
      refine ⟨_, fun w => ?_, rfl⟩
      rw [slen_den]
      simp [Builtin.len_, run_underlying hu, goInt, bytes_size]
    · cases h
  · rename_i el hu
    split at h
    · simp only [Option.some.injEq] at h
      subst h
      simp only [RepC] at hx
      subst hx
      refine ⟨_, fun w => ?_, rfl⟩
      simp [Builtin.len_, run_underlying hu, goInt, E.den, TV.asInt]
    · split at h
      · rename_i row hrow
        simp only [Option.some.injEq] at h
        subst h
        obtain ⟨a, cap, xs, rfl, _⟩ := rowOf_reads r hrow hx
        refine ⟨_, fun w => ?_, rfl⟩
        rw [len_den]
        simp [Builtin.len_, run_underlying hu, goInt]
      · cases h
  · rename_i n el hu
    simp only [Option.some.injEq] at h
    subst h
    refine ⟨_, fun w => ?_, rfl⟩
    simp [Builtin.len_, run_underlying hu, goInt, E.den, TV.asInt]
  · cases h
end
end Go.Proofs.YtccpepheooleoaaDoor
