/- Symbolic runs, part i: values laid as trees; variables and literals of the call's own. -/
import Derived.Test.YtccpepheooleoaaDoorSh
namespace Go.Proofs.YtccpepheooleoaaDoor
set_option linter.unusedSimpArgs false
set_option linter.unusedVariables false
set_option linter.unusedSectionVars false
open Go.RowKit

/-! ### Shapes are compared by computation -/
def listEq {α : Type} (f : α → α → Bool) : List α → List α → Bool
  | [], [] => true
  | a :: x, b :: y => f a b && listEq f x y
  | _, _ => false
theorem listEq_eq {α : Type} {f : α → α → Bool} (hf : ∀ a b, f a b = true → a = b) : ∀ {x y : List α}, listEq f x y = true → x = y
  | [], [], _ => rfl
  | [], _ :: _, h => by simp [listEq] at h
  | _ :: _, [], h => by simp [listEq] at h
  | a :: x, b :: y, h => by
    simp only [listEq, Bool.and_eq_true] at h
    rw [hf _ _ h.1, listEq_eq hf h.2]
def ctEq : Nat → CT → CT → Bool
  | 0, _, _ => false
  | n + 1, a, b => match a, b with
    | .int k, .int l => keq k l
    | .bool, .bool => true
    | .str, .str => true
    | .slice a cs, .slice b ds => (a == b) && listEq (ctEq n) cs ds
    | _, _ => false
theorem ctEq_eq : ∀ {n : Nat} {a b : CT}, ctEq n a b = true → a = b
  | 0, a, b, h => by simp [ctEq] at h
  | n + 1, a, b, h => by
    cases a <;> cases b <;> simp only [ctEq, Bool.false_eq_true, Bool.and_eq_true, beq_iff_eq] at h
    · rw [keq_eq h]
    · rfl
    · rfl
    · rw [h.1, listEq_eq (fun _ _ h => ctEq_eq h) h.2]
def ctsEq (a b : List CT) : Bool := listEq (ctEq 12) a b
theorem ctsEq_eq {a b : List CT} (h : ctsEq a b = true) : a = b := listEq_eq (fun _ _ h => ctEq_eq h) h

section
variable {Γ : CEnv} {gt : GT} {ρ : List TV} {B : Nat} {G : Nat → Prop} {st : SS} {as : List Value} {vss : List (Array Value)} {w : World} {P : Program}

/-! ### A cell as a tree: what it reads as from now on; a row of the call's own that goes in is not written any more -/
def shareB (hp : List Blk) (b : Nat) : List Blk := match hp[b]? with
  | some blk => if blk.own then hp.set b blk.shared else hp
  | none => hp
def reify (hp : List Blk) (ct : CT) (s : SC) : Option (Bool × E × List Blk) := match ct, s with
  | .int k, .int k' e => if keq k k' then some (true, e, hp) else none
  | .bool, .bool e => some (true, e, hp)
  | .str, .str e => some (true, e, hp)
  | .slice ag cs, .nil => some (true, .nil, hp)
  | .slice ag cs, .imm fr ag' cs' e => if (ag == ag') && ctsEq cs cs' then some (fr, e, hp) else none
  | .slice ag cs, .own b ver => match hp[b]? with
    | some blk => if Nat.beq blk.ver ver && (ag == blk.ag) && ctsEq cs blk.cs then (match blk.cont with
      | .row e => some (blk.fr, e, shareB hp b)
      | _ => none) else none
    | none => none
  | .slice ag cs, .sub b ver lo hi => match hp[b]? with
    | some blk => if Nat.beq blk.ver ver && (ag == blk.ag) && ctsEq cs blk.cs then (match blk.cont with
      | .row e => some (blk.fr, subE e lo hi, shareB hp b)
      | _ => none) else none
    | none => none
  | _, _ => none

/-- A state that is the former but for rows that are shared now. -/
structure Later (Γ : CEnv) (gt : GT) (ρ : List TV) (B : Nat) (G : Nat → Prop) (st : SS) (as : List Value) (vss : List (Array Value)) (w : World) (hp' : List Blk) (G' : Nat → Prop) : Prop where
  rel : Rel Γ gt ρ B G' { st with heap := hp' } as vss w
  tr : Tr Γ ρ st.heap as hp' as
  m : Mem.le (stable w G) (stable w G')
  mf : Mem.le (fresh w G B) (fresh w G' B)
theorem Later.refl (r : Rel Γ gt ρ B G st as vss w) : Later Γ gt ρ B G st as vss w st.heap G := ⟨r, Tr.refl _ _ _ _, Mem.le.refl _, Mem.le.refl _⟩
theorem Tr.trans {hp hp' hp'' : List Blk} {as as' as'' : List Value} (h : Tr Γ ρ hp as hp' as') (k : Tr Γ ρ hp' as' hp'' as'') : Tr Γ ρ hp as hp'' as'' :=
  ⟨fun b blk va h1 h2 => by
    obtain ⟨blk', va', a1, a2, a3, a4⟩ := h.blk b blk va h1 h2
    obtain ⟨blk'', va'', b1, b2, b3, b4⟩ := k.blk b blk' va' a1 a2
    refine ⟨blk'', va'', b1, b2, Nat.le_trans a3 b3, fun e => ?_⟩
    obtain ⟨c1, c2, c3, c4⟩ := a4 (by omega)
    obtain ⟨d1, d2, d3, d4⟩ := b4 (by omega)
    exact ⟨d1.trans c1, d2.trans c2, d3.trans c3, fun e he => let ⟨e', he'⟩ := c4 e he; d4 e' he'⟩⟩
theorem Later.trans {hp' hp'' : List Blk} {G' G'' : Nat → Prop} (h : Later Γ gt ρ B G st as vss w hp' G') (k : Later Γ gt ρ B G' { st with heap := hp' } as vss w hp'' G'') : Later Γ gt ρ B G st as vss w hp'' G'' :=
  ⟨k.rel, h.tr.trans k.tr, h.m.trans k.m, h.mf.trans k.mf⟩
theorem Later.shareB (r : Rel Γ gt ρ B G st as vss w) (b : Nat) {blk : Blk} {e : E} (hb : st.heap[b]? = some blk) (hc : blk.cont = .row e) : ∃ G', Later Γ gt ρ B G st as vss w (shareB st.heap b) G' ∧
    ∃ blk' va, (Proofs.YtccpepheooleoaaDoor.shareB st.heap b)[b]? = some blk' ∧ as[b]? = some va ∧ blk'.own = false ∧ blk'.cont = .row e ∧ blk'.ver = blk.ver ∧ blk'.fr = blk.fr ∧ blk'.ag = blk.ag ∧ blk'.cs = blk.cs := by
  obtain ⟨va, hva⟩ : ∃ va, as[b]? = some va := ⟨_, List.getElem?_eq_getElem (by rw [r.alen]; exact (List.getElem?_eq_some_iff.1 hb).1)⟩
  unfold Proofs.YtccpepheooleoaaDoor.shareB
  rw [hb]
  dsimp only
  by_cases ho : blk.own = true
  · rw [if_pos ho]
    obtain ⟨G', h1, h2, h3, h4⟩ := r.share hb hc ho
    refine ⟨G', ⟨h1, h2, h3, h4⟩, blk.shared, va, ?_, hva, rfl, hc, rfl, rfl, rfl, rfl⟩
    rw [List.getElem?_set, if_pos rfl, if_pos (List.getElem?_eq_some_iff.1 hb).1]
  · rw [if_neg ho]
    exact ⟨G, .refl r, blk, va, hb, hva, by simpa using ho, hc, rfl, rfl, rfl, rfl⟩

theorem sub_slice {M : Mem} {ag : Bool} {cs : List CT} {t : TV} {va v : Value} {lo hi : Int} (r : RepT M (.slice ag cs) t va) (hh : HeadOrNil va) (h0 : 0 ≤ lo) (h1 : lo ≤ hi) (h2 : hi ≤ t.asList.length) {a : Option Addr} {cap : Nat}
    (hv : v = .slice a (hi - lo).toNat cap) (hcap : (hi - lo).toNat ≤ cap) (hmax : cap ≤ maxLen) (hn : a = none → cap = 0) (hk : lo = hi ∨ ∃ g l c, va = .slice (some ⟨g, 0, none⟩) l c ∧ a = some ⟨g, lo.toNat * cs.length, none⟩) :
    RepT M (.slice ag cs) (.list ((t.asList.drop lo.toNat).take (hi.toNat - lo.toNat))) v := by
  have hlen : ((t.asList.drop lo.toNat).take (hi.toNat - lo.toNat)).length = (hi - lo).toNat := by rw [List.length_take, List.length_drop]; omega
  by_cases he : lo = hi
  · subst he
    rw [hv, show (lo - lo).toNat = 0 by omega]
    exact .empty _ _ _ _ _ (by simp [asList_list]) hn hmax
  · rcases hk with hk | ⟨g, l, c, e1, e2⟩
    · exact absurd hk he
    · cases r with
      | empty _ _ _ a' cap' q1 q2 q3 => rw [q1] at h2; simp at h2; omega
      | slice _ _ _ g' off cap' cur el fr vals q1 q2 q3 q4 q5 =>
        injection e1 with e3 e4 e5
        injection e3 with e3
        injection e3 with e6 e7
        subst e6 e7
        have := RepT.slice (M := M) ag cs (.list ((t.asList.drop lo.toNat).take (hi.toNat - lo.toNat))) g' (lo.toNat * cs.length) cap cur el fr (fun i c => vals (lo.toNat + i) c) q1 (by rw [asList_list, hlen]; exact hcap) hmax
          (fun i hi' c hc => by
            rw [asList_list, hlen] at hi'
            have := q4 (lo.toNat + i) (by omega) c hc
            rw [Nat.zero_add, Nat.add_mul] at this
            exact this)
          (fun i hi' c hc => by
            have hi2 := hi'
            rw [asList_list, hlen] at hi2
            have := q5 (lo.toNat + i) (by omega) c hc
            have e : (TV.list ((t.asList.drop lo.toNat).take (hi.toNat - lo.toNat))).asList[i] = t.asList[lo.toNat + i]'(by omega) := by simp only [asList_list, List.getElem_take, List.getElem_drop]
            rw [e]; exact this)
        rw [asList_list, hlen] at this
        rw [hv, e2]
        exact this

theorem reify_sound (r : Rel Γ gt ρ B G st as vss w) {ct : CT} {s : SC} {fr : Bool} {e : E} {hp' : List Blk} {v : Value} (h : reify st.heap ct s = some (fr, e, hp')) (hs : RepC Γ ρ st.heap as (stable w G) (fresh w G B) s v) :
    ∃ G', Later Γ gt ρ B G st as vss w hp' G' ∧ RepT (pick (stable w G') (fresh w G' B) fr) ct (e.den Γ ρ) v := by
  have whole : ∀ {b : Nat} {blk : Blk} {va : Value} {c : E} {G' : Nat → Prop} {hp : List Blk}, Rel Γ gt ρ B G' { st with heap := hp } as vss w → hp[b]? = some blk → as[b]? = some va → blk.own = false → blk.cont = .row c →
      RepT (pick (stable w G') (fresh w G' B) blk.fr) (.slice blk.ag blk.cs) (c.den Γ ρ) va ∧ HeadOrNil va := by
    intro b blk va c G' hp r' h1 h2 h3 h4
    have := r'.blks b blk va h1 h2
    unfold BlkRel at this
    rw [h4] at this
    dsimp only at this
    rw [if_neg (by simp [h3])] at this
    exact this
  unfold reify at h
  split at h
  · split at h
    · rename_i k k' e' hk
      simp only [Option.some.injEq, Prod.mk.injEq] at h
      obtain ⟨rfl, rfl, rfl⟩ := h
      simp only [RepC] at hs
      subst hs
      rw [keq_eq hk]
      exact ⟨G, .refl r, .int _ _⟩
    · cases h
  · simp only [Option.some.injEq, Prod.mk.injEq] at h
    obtain ⟨rfl, rfl, rfl⟩ := h
    simp only [RepC] at hs
    subst hs
    exact ⟨G, .refl r, .bool _⟩
  · simp only [Option.some.injEq, Prod.mk.injEq] at h
    obtain ⟨rfl, rfl, rfl⟩ := h
    simp only [RepC] at hs
    subst hs
    exact ⟨G, .refl r, .str _⟩
  · simp only [Option.some.injEq, Prod.mk.injEq] at h
    obtain ⟨rfl, rfl, rfl⟩ := h
    simp only [RepC] at hs
    subst hs
    exact ⟨G, .refl r, .empty _ _ _ _ _ rfl (fun _ => rfl) (Nat.zero_le _)⟩
  · split at h
    · rename_i hc
      simp only [Bool.and_eq_true, beq_iff_eq] at hc
      simp only [Option.some.injEq, Prod.mk.injEq] at h
      obtain ⟨rfl, rfl, rfl⟩ := h
      rw [hc.1, ctsEq_eq hc.2]
      exact ⟨G, .refl r, hs⟩
    · cases h
  · split at h
    · rename_i blk hb
      split at h
      · rename_i hc
        simp only [Bool.and_eq_true, beq_iff_eq] at hc
        split at h
        · rename_i c hcont
          simp only [Option.some.injEq, Prod.mk.injEq] at h
          obtain ⟨rfl, rfl, rfl⟩ := h
          obtain ⟨_, blk0, va, h1, h2, h3, h4⟩ := hs
          rw [hb] at h1
          injection h1 with h1
          subst h1
          obtain ⟨rfl, _⟩ := h4 (Nat.eq_of_beq_eq_true hc.1.1)
          obtain ⟨G', k1, blk', va', k2, k3, k4, k5, k6, k7, k8, k9⟩ := Later.shareB r _ hb hcont
          rw [h2] at k3
          injection k3 with k3
          subst k3
          have := (whole k1.rel k2 h2 k4 k5).1
          rw [k7, k8, k9] at this
          rw [hc.1.2, ctsEq_eq hc.2]
          exact ⟨G', k1, this⟩
        · cases h
      · cases h
    · cases h
  · split at h
    · rename_i blk hb
      split at h
      · rename_i hc
        simp only [Bool.and_eq_true, beq_iff_eq] at hc
        split at h
        · rename_i c hcont
          simp only [Option.some.injEq, Prod.mk.injEq] at h
          obtain ⟨rfl, rfl, rfl⟩ := h
          obtain ⟨_, blk0, va, h1, h2, h3, h4⟩ := hs
          rw [hb] at h1
          injection h1 with h1
          subst h1
          obtain ⟨⟨n, q1, q2, q3, q4, a, cap, q5, q6, q7, q8, q9⟩, _⟩ := h4 (Nat.eq_of_beq_eq_true hc.1.1)
          obtain ⟨G', k1, blk', va', k2, k3, k4, k5, k6, k7, k8, k9⟩ := Later.shareB r _ hb hcont
          rw [h2] at k3
          injection k3 with k3
          subst k3
          obtain ⟨w1, w2⟩ := whole k1.rel k2 h2 k4 k5
          rw [k7, k8, k9] at w1
          rw [hc.1.2, ctsEq_eq hc.2]
          refine ⟨G', k1, ?_⟩
          have hn : n = (c.den Γ ρ).asList.length := by simp only [Blk.len, hcont, Option.some.injEq] at q1; exact q1.symm
          have hsz : blk.size = blk.cs.length := by simp only [Blk.size, hcont]
          rw [hsz] at q9
          rw [hn] at q4
          exact sub_slice w1 w2 q2 q3 q4 q5 q6 q7 q8 q9
        · cases h
      · cases h
    · cases h
  · cases h

/-! ### Several cells as the cells of an element -/
def reifyCs (hp : List Blk) : List CT → List SC → Option (Bool × List E × List Blk)
  | [], [] => some (true, [], hp)
  | ct :: cts, s :: ss => match reify hp ct s with
    | some (fr, e, hp') => match reifyCs hp' cts ss with
      | some (fr', es, hp'') => some (fr && fr', e :: es, hp'')
      | none => none
    | none => none
  | _, _ => none
def elemOfEs (ag : Bool) (es : List E) : Option E := if ag then some (.o1 .agg (es.foldr .cons .nil)) else match es with
  | [e] => some e
  | _ => none
theorem foldr_den (es : List E) : ((es.foldr E.cons .nil).den Γ ρ).asList = es.map (·.den Γ ρ) := by
  induction es with
  | nil => rfl
  | cons e es ih => simp only [List.foldr_cons, E.den, asList_list, ih, List.map_cons]
theorem pick_false {M Mf : Mem} (h : Mem.le Mf M) (fr : Bool) : Mem.le (pick M Mf fr) M := by
  cases fr
  · exact Mem.le.refl _
  · exact h
theorem pick_and {M Mf : Mem} (h : Mem.le Mf M) (a b : Bool) : Mem.le (pick M Mf a) (pick M Mf (a && b)) ∧ Mem.le (pick M Mf b) (pick M Mf (a && b)) := by
  cases a <;> cases b <;> exact ⟨by first | exact Mem.le.refl _ | exact h, by first | exact Mem.le.refl _ | exact h⟩
theorem RepCs.later {hp' : List Blk} {G' : Nat → Prop} (l : Later Γ gt ρ B G st as vss w hp' G') {cs : List SC} {vs : List Value} (h : RepCs Γ ρ st.heap as (stable w G) (fresh w G B) cs vs) : RepCs Γ ρ hp' as (stable w G') (fresh w G' B) cs vs := h.tr l.tr l.m l.mf
theorem reifyCs_sound : ∀ {cts : List CT} {ss : List SC} {st : SS} {G : Nat → Prop} {fr : Bool} {es : List E} {hp' : List Blk} {vs : List Value} (r : Rel Γ gt ρ B G st as vss w) (h : reifyCs st.heap cts ss = some (fr, es, hp'))
    (hs : RepCs Γ ρ st.heap as (stable w G) (fresh w G B) ss vs),
    ∃ G', Later Γ gt ρ B G st as vss w hp' G' ∧ es.length = cts.length ∧ vs.length = cts.length ∧ ∀ (c : Nat) (ct : CT), cts[c]? = some ct → ∃ e v, es[c]? = some e ∧ vs[c]? = some v ∧ RepT (pick (stable w G') (fresh w G' B) fr) ct (e.den Γ ρ) v
  | [], [], st, G, fr, es, hp', vs, r, h, hs => by
    simp only [reifyCs, Option.some.injEq, Prod.mk.injEq] at h
    obtain ⟨rfl, rfl, rfl⟩ := h
    exact ⟨G, .refl r, rfl, by have := hs.1; simp at this; simp [this], fun c ct h => by simp at h⟩
  | ct :: cts, s :: ss, st, G, fr, es, hp', vs, r, h, hs => by
    cases vs with
    | nil => have := hs.1; simp at this
    | cons v vs =>
      simp only [reifyCs] at h
      split at h
      · rename_i fr1 e1 hp1 h1
        split at h
        · rename_i fr2 es2 hp2 h2
          simp only [Option.some.injEq, Prod.mk.injEq] at h
          obtain ⟨rfl, rfl, rfl⟩ := h
          obtain ⟨G1, l1, t1⟩ := reify_sound r h1 (hs.2 0 _ _ rfl rfl)
          have hrest : RepCs Γ ρ hp1 as (stable w G1) (fresh w G1 B) ss vs := by
            have := (RepCs.later l1 hs).drop 1
            simpa [RepCs] using this
          obtain ⟨G2, l2, e2, e3, t2⟩ := reifyCs_sound l1.rel h2 hrest
          refine ⟨G2, l1.trans l2, by simp [e2], by simp [e3], fun c ct' hc => ?_⟩
          have hpa := pick_and (fresh_le w G2 B) fr1 fr2
          cases c with
          | zero =>
            simp at hc
            subst hc
            exact ⟨e1, v, rfl, rfl, (t1.mono (pick_le l2.m l2.mf _)).mono hpa.1⟩
          | succ c =>
            obtain ⟨e, u, q1, q2, q3⟩ := t2 c ct' (by simpa using hc)
            exact ⟨e, u, by simpa using q1, by simpa using q2, q3.mono hpa.2⟩
        · cases h
      · cases h
  | [], _ :: _, st, G, fr, es, hp', vs, r, h, hs => by simp [reifyCs] at h
  | _ :: _, [], st, G, fr, es, hp', vs, r, h, hs => by simp [reifyCs] at h

theorem elem_cells {M : Mem} {ag : Bool} {es : List E} {e : E} {cts : List CT} {vs : List Value} (h : elemOfEs ag es = some e) (hl : es.length = cts.length) (hv : vs.length = cts.length)
    (hr : ∀ (c : Nat) (ct : CT), cts[c]? = some ct → ∃ e v, es[c]? = some e ∧ vs[c]? = some v ∧ RepT M ct (e.den Γ ρ) v) : CellsT M ag cts (e.den Γ ρ) vs := by
  refine ⟨hv, fun c hc => ?_⟩
  obtain ⟨e', v, k1, k2, k3⟩ := hr c cts[c] (List.getElem?_eq_getElem hc)
  refine ⟨v, k2, ?_⟩
  unfold elemOfEs at h
  unfold elemCell
  split at h
  · rename_i hag
    simp only [Option.some.injEq] at h
    subst h
    rw [if_pos hag]
    simp only [E.den, P1.den, TV.cell, cells_agg, foldr_den]
    rw [List.getD_eq_getElem?_getD, List.getElem?_map, k1]
    exact k3
  · rename_i hag
    rw [if_neg hag]
    split at h
    · simp only [Option.some.injEq] at h
      subst h
      simp only [List.length_singleton] at hl
      have : c = 0 := by omega
      subst this
      simp at k1
      rw [k1]
      exact k3
    · cases h
end
end Go.Proofs.YtccpepheooleoaaDoor
