/- Symbolic runs, part q: calls by contract. -/
import Derived.Test.YtccpepheooleoaaDoorSp
namespace Go.Proofs.YtccpepheooleoaaDoor
set_option linter.unusedSimpArgs false
set_option linter.unusedVariables false
set_option linter.unusedSectionVars false
open Go.RowKit

section
variable {Γ : CEnv} {gt : GT} {ρ : List TV} {B : Nat} {G : Nat → Prop} {st : SS} {as : List Value} {vss : List (Array Value)} {w : World} {P : Program}

/-! ### Arguments -/
theorem stable_full (w : World) (G : Nat → Prop) : Mem.le (stable w G) (full w) := fun _ _ h => h.1
theorem fresh_full (w : World) (G : Nat → Prop) (B : Nat) : Mem.le (fresh w G B) (full w) := fun _ _ h => h.1
theorem pick_full (w : World) (G : Nat → Prop) (B : Nat) (fr : Bool) : Mem.le (pick (stable w G) (fresh w G B) fr) (full w) := by
  cases fr
  · exact stable_full w G
  · exact fresh_full w G B
theorem Reads.full {M : Mem} {ag : Bool} {cs : List CT} {t : TV} {v : Value} (h : Reads M w ag cs t.asList v) (hM : Mem.le M (full w)) (hpos : 0 < cs.length) : RepT (Proofs.YtccpepheooleoaaDoor.full w) (.slice ag cs) t v := by
  obtain ⟨a, cap, xs, rfl, h1, h2, h3, hr, hc⟩ := h
  by_cases h0 : t.asList = []
  · rw [h0]
    exact .empty _ _ _ _ _ h0 h3 h2
  · have hlen : 0 < t.asList.length := List.length_pos_iff.2 h0
    obtain ⟨v0, k1, _⟩ := hr.2 0 hlen 0 hpos
    obtain ⟨g, off, rfl, k2⟩ := hc _ v0 k1
    have hobj : ∃ cur el fr, w.heap[g]? = some (.cells cur el fr) := by
      unfold World.cell? at k2
      split at k2
      · rename_i c e f hg
        exact ⟨c, e, f, hg⟩
      · cases k2
    obtain ⟨cur, el, fr, hg⟩ := hobj
    refine .slice ag cs t g off cap cur el fr (fun i c => (xs[i * cs.length + c]?).getD undef) hg h1 h2 (fun i hi c hcl => ?_) (fun i hi c hcl => ?_)
    · obtain ⟨u, q1, q2⟩ := hr.2 i hi c hcl
      obtain ⟨g', off', q3, q4⟩ := hc _ u q1
      injection q3 with q3
      injection q3 with q5 q6
      subst q5 q6
      unfold World.cell? at q4
      rw [hg] at q4
      simp only [Option.isSome_none, Bool.false_eq_true, if_false] at q4
      rw [q1, Nat.add_assoc]
      exact q4
    · obtain ⟨u, q1, q2⟩ := hr.2 i hi c hcl
      rw [q1]
      exact q2.mono hM

def argC (hp : List Blk) (ct : CT) (s : SC) : Option E := match ct, s with
  | .int k, .int k' e => if keq k k' then some e else none
  | .bool, .bool e => some e
  | .str, .str e => some e
  | .slice ag cs, .nil => some .nil
  | .slice ag cs, s => match rowOf hp s with
    | some row => if (row.ag == ag) && ctsEq row.cs cs && Nat.blt 0 cs.length then some row.e else none
    | none => none
  | _, _ => none
theorem argC_sound (r : Rel Γ gt ρ B G st as vss w) {ct : CT} {s : SC} {e : E} {v : Value} (h : argC st.heap ct s = some e) (hs : RepC Γ ρ st.heap as (stable w G) (fresh w G B) s v) : RepT (full w) ct (e.den Γ ρ) v := by
  unfold argC at h
  split at h
  · split at h
    · rename_i k k' e' hk
      simp only [Option.some.injEq] at h
      subst h
      simp only [RepC] at hs
      subst hs
      rw [keq_eq hk]
      exact .int _ _
    · cases h
  · simp only [Option.some.injEq] at h
    subst h
    simp only [RepC] at hs
    subst hs
    exact .bool _
  · simp only [Option.some.injEq] at h
    subst h
    simp only [RepC] at hs
    subst hs
    exact .str _
  · simp only [Option.some.injEq] at h
    subst h
    simp only [RepC] at hs
    subst hs
    exact .empty _ _ _ _ _ rfl (fun _ => rfl) (Nat.zero_le _)
  · split at h
    · rename_i row hrow
      split at h
      · rename_i hc
        simp only [Bool.and_eq_true, beq_iff_eq, Nat.blt_eq] at hc
        simp only [Option.some.injEq] at h
        subst h
        have hr := rowOf_reads r hrow hs
        rw [hc.1.1, ctsEq_eq hc.1.2] at hr
        exact hr.full (pick_full w G B _) hc.2
      · cases h
    · cases h
  · cases h
def argCs (hp : List Blk) : List CT → List SC → Option (List E)
  | [], [] => some []
  | ct :: cts, s :: ss => match argC hp ct s, argCs hp cts ss with
    | some e, some l => some (e :: l)
    | _, _ => none
  | _, _ => none
theorem argCs_sound (r : Rel Γ gt ρ B G st as vss w) : ∀ {cts : List CT} {ss : List SC} {es : List E} {vs : List Value}, argCs st.heap cts ss = some es → RepCs Γ ρ st.heap as (stable w G) (fresh w G B) ss vs →
    es.length = cts.length ∧ vs.length = cts.length ∧ ∀ (c : Nat) (ct : CT), cts[c]? = some ct → ∃ e v, es[c]? = some e ∧ vs[c]? = some v ∧ RepT (full w) ct (e.den Γ ρ) v
  | [], [], es, vs, h, hs => by
    simp only [argCs, Option.some.injEq] at h
    subst h
    exact ⟨rfl, by have := hs.1; simp at this; simp [this], fun c ct h => by simp at h⟩
  | ct :: cts, s :: ss, es, vs, h, hs => by
    simp only [argCs] at h
    split at h
    · rename_i e l h1 h2
      simp only [Option.some.injEq] at h
      subst h
      cases vs with
      | nil => have := hs.1; simp at this
      | cons v vs =>
        obtain ⟨a1, a2, a3⟩ := argCs_sound r h2 (vs := vs) (by simpa [RepCs] using hs.drop 1)
        refine ⟨by simp [a1], by simp [a2], fun c ct' hc => ?_⟩
        cases c with
        | zero =>
          simp at hc
          subst hc
          exact ⟨e, v, rfl, rfl, argC_sound r h1 (hs.2 0 _ _ rfl rfl)⟩
        | succ c =>
          obtain ⟨e', u, q1, q2, q3⟩ := a3 c ct' (by simpa using hc)
          exact ⟨e', u, by simpa using q1, by simpa using q2, q3⟩
    · cases h
  | [], _ :: _, es, vs, h, hs => by simp [argCs] at h
  | _ :: _, [], es, vs, h, hs => by simp [argCs] at h
def argE (hp : List Blk) (x : Bool × List CT) (s : SV) : Option E := match s with
  | .sc s => if x.1 then none else (match x.2 with
    | [ct] => argC hp ct s
    | _ => none)
  | .agg cs => if x.1 then (match argCs hp x.2 cs with
    | some es => some (.o1 .agg (es.foldr .cons .nil))
    | none => none) else none
  | .tup _ => none
theorem argE_sound (r : Rel Γ gt ρ B G st as vss w) {x : Bool × List CT} {s : SV} {e : E} {v : Value} (h : argE st.heap x s = some e) (hs : RepV Γ ρ st.heap as (stable w G) (fresh w G B) s v) : ArgRep w x (e.den Γ ρ) v := by
  unfold argE at h
  unfold ArgRep
  cases s with
  | sc s =>
    dsimp only at h
    split at h
    · cases h
    · rename_i hx
      rw [if_neg hx]
      split at h
      · rename_i ct hct
        exact ⟨ct, hct, argC_sound r h hs⟩
      · cases h
  | agg cs =>
    dsimp only at h
    split at h
    · rename_i hx
      rw [if_pos hx]
      split at h
      · rename_i es hes
        simp only [Option.some.injEq] at h
        subst h
        obtain ⟨vs, rfl, h2⟩ := hs
        obtain ⟨a1, a2, a3⟩ := argCs_sound r hes h2
        exact ⟨vs, rfl, elem_cells (ag := true) (by simp [elemOfEs]) a1 a2 a3⟩
      · cases h
    · cases h
  | tup _ => cases h
def argsE (hp : List Blk) : List (Bool × List CT) → List SV → Option (List E)
  | [], [] => some []
  | x :: xs, s :: ss => match argE hp x s, argsE hp xs ss with
    | some e, some l => some (e :: l)
    | _, _ => none
  | _, _ => none
theorem argsE_sound (r : Rel Γ gt ρ B G st as vss w) : ∀ {xs : List (Bool × List CT)} {ss : List SV} {es : List E} {vs : List Value}, argsE st.heap xs ss = some es → All2 (RepV Γ ρ st.heap as (stable w G) (fresh w G B)) ss vs → ArgsRep w xs (es.map (·.den Γ ρ)) vs
  | [], [], es, vs, h, hs => by
    simp only [argsE, Option.some.injEq] at h
    subst h
    exact ⟨rfl, hs.1, fun i x t v h => by simp at h⟩
  | x :: xs, s :: ss, es, vs, h, hs => by
    simp only [argsE] at h
    split at h
    · rename_i e l h1 h2
      simp only [Option.some.injEq] at h
      subst h
      cases vs with
      | nil => have := hs.1; simp at this
      | cons v vs =>
        obtain ⟨a1, a2, a3⟩ := argsE_sound r h2 (vs := vs) (by simpa using hs.drop 1)
        refine ⟨by simpa using a1, by simpa using a2, fun i y t u hy ht hu => ?_⟩
        cases i with
        | zero =>
          simp at hy ht hu
          subst hy ht hu
          exact argE_sound r h1 (hs.2 0 _ _ rfl rfl)
        | succ i => exact a3 i y t u (by simpa using hy) (by simpa using ht) (by simpa using hu)
    · cases h
  | [], _ :: _, es, vs, h, hs => by simp [argsE] at h
  | _ :: _, [], es, vs, h, hs => by simp [argsE] at h

/-! ### Results -/
/-- The world behind a call that made memory of its own. -/
theorem Rel.after (r : Rel Γ gt ρ B G st as vss w) {w' : World} {G' : Nat → Prop} (hb : Below w.heap.size w w') (hg : ∀ g, G' g → w.heap.size ≤ g ∧ g < w'.heap.size) : Rel Γ gt ρ B (fun g => G g ∨ G' g) st as vss w' := by
  have key : ∀ g o, w.heap[g]? = some o → ¬ G g → w'.heap[g]? = some o ∧ ¬ (G g ∨ G' g) := by
    intro g o h1 h2
    have hlt := (Array.getElem?_eq_some_iff.1 h1).1
    refine ⟨by rw [hb.block g hlt]; exact h1, fun h => ?_⟩
    rcases h with h | h
    · exact h2 h
    · have := (hg g h).1; omega
  have := r.step (w' := w') (G' := fun g => G g ∨ G' g) st.heap (Tr.refl _ _ _ _) (fun g o h => key g o h.1 h.2) (fun g o h => let ⟨a, b⟩ := key g o h.1 h.2.1; ⟨a, b, h.2.2⟩) r.alen
    (fun b blk va h1 h2 => BlkRel.tr (Tr.refl _ _ _ _) (fun g o h => key g o h.1 h.2) (fun g o h => let ⟨a, b⟩ := key g o h.1 h.2.1; ⟨a, b, h.2.2⟩) (r.blks b blk va h1 h2) fun hl g hg' => by
      have := r.gs g (r.own b blk va g h1 h2 hl hg')
      exact hb.block g this.2)
    (fun b blk va g h1 h2 hl hg' => .inl (r.own b blk va g h1 h2 hl hg')) r.dist (by have := r.base; have := hb.size; omega)
    (fun g h => by
      rcases h with h | h
      · have := r.gs g h; have := hb.size; omega
      · have := hg g h; have := r.base; omega)
  exact this

theorem Rel.adopt (r : Rel Γ gt ρ B G st as vss w) {blk : Blk} {c : E} {va : Value} (hc : blk.cont = .row c) (ho : blk.own = true) {xs : List Value} (hown : w.ownsRow B blk.ety blk.cs.length va (c.den Γ ρ).asList.length xs)
    (hrow : RowT (pick (stable w G) (fresh w G B) blk.fr) blk.ag blk.cs (c.den Γ ρ).asList xs) (hg : ∀ g, gOf va = some g → G g ∧ ∀ (b : Nat) (k : Blk) (v : Value), st.heap[b]? = some k → as[b]? = some v → k.live = true → gOf v ≠ some g) :
    Rel Γ gt ρ B G { st with heap := st.heap ++ [blk] } (as ++ [va]) vss w := by
  have tr := Tr.push Γ ρ st.heap as r.alen blk va
  have hal := r.alen
  refine r.step _ tr (Mem.le.refl _) (Mem.le.refl _) (by simp [hal]) ?_ ?_ ?_ r.base r.gs
  · intro b k v h1 h2
    rcases get_push h1 with q1 | ⟨e1, f1⟩ <;> rcases get_push h2 with q2 | ⟨e2, f2⟩
    · exact BlkRel.tr tr (Mem.le.refl _) (Mem.le.refl _) (r.blks b k v q1 q2) fun _ _ _ => rfl
    · have := (List.getElem?_eq_some_iff.1 q1).1; omega
    · have := (List.getElem?_eq_some_iff.1 q2).1; omega
    · subst f1 f2
      exact BlkRel.ownRow hc ho ⟨xs, hown, hrow⟩
  · intro b k v g h1 h2 hl hg'
    rcases get_push h1 with q1 | ⟨e1, f1⟩ <;> rcases get_push h2 with q2 | ⟨e2, f2⟩
    · exact r.own b k v g q1 q2 hl hg'
    · subst f2; exact (hg g hg').1
    · have := (List.getElem?_eq_some_iff.1 q2).1; omega
    · subst f2; exact (hg g hg').1
  · intro b b' k k' v v' g h1 h2 hl hg1 h3 h4 hl' hg2
    rcases get_push h1 with q1 | ⟨e1, f1⟩ <;> rcases get_push h2 with q2 | ⟨e2, f2⟩ <;> rcases get_push h3 with q3 | ⟨e3, f3⟩ <;> rcases get_push h4 with q4 | ⟨e4, f4⟩
    all_goals first
      | exact r.dist b b' _ _ _ _ g q1 q2 hl hg1 q3 q4 hl' hg2
      | omega
      | (exfalso; have := (List.getElem?_eq_some_iff.1 q1).1; omega)
      | (exfalso; have := (List.getElem?_eq_some_iff.1 q2).1; omega)
      | (exfalso; have := (List.getElem?_eq_some_iff.1 q3).1; omega)
      | (exfalso; have := (List.getElem?_eq_some_iff.1 q4).1; omega)
      | (exfalso; subst f4; exact (hg g hg2).2 b _ _ q1 q2 hl hg1)
      | (exfalso; subst f2; exact (hg g hg1).2 b' _ _ q3 q4 hl' hg2)

def adoptCells : List ((CT × Option TypeId) × E) → List Blk → List SC × List Blk
  | [], hp => ([], hp)
  | ((ct, o), e) :: r, hp => match ct, o with
    | .slice ag cs, some t => match adoptCells r (hp ++ [⟨0, true, true, t, ag, cs, .row e⟩]) with
      | (l, hp') => (.own hp.length 0 :: l, hp')
    | ct, _ => match adoptCells r hp with
      | (l, hp') => (scOf true ct e :: l, hp')
theorem adoptCells_rel {B0 : Nat} {G' : Nat → Prop} (hB0 : B ≤ B0) (hsub : ∀ g, G' g → G g) (hold : ∀ g, B0 ≤ g → G g → G' g) : ∀ {fl : List ((CT × Option TypeId) × E)} {vs : List Value} {st : SS} {as : List Value} {cells : List SC} {hp' : List Blk}, Rel Γ gt ρ B G st as vss w →
    adoptCells fl st.heap = (cells, hp') → vs.length = fl.length → (∀ (i : Nat) x v, fl[i]? = some x → vs[i]? = some v → ResC B0 w G' x.1 (x.2.den Γ ρ) v) → (ownCells (fl.map (·.1)) vs).Nodup →
    (∀ (b : Nat) (k : Blk) (v : Value) (g : Nat), st.heap[b]? = some k → as[b]? = some v → k.live = true → gOf v = some g → g ∉ ownCells (fl.map (·.1)) vs) →
    ∃ as', Rel Γ gt ρ B G { st with heap := hp' } as' vss w ∧ Tr Γ ρ st.heap as hp' as' ∧ RepCs Γ ρ hp' as' (stable w G) (fresh w G B) cells vs
  | [], vs, st, as, cells, hp', r, h, hl, hres, hnd, hav => by
    simp only [adoptCells, Prod.mk.injEq] at h
    obtain ⟨rfl, rfl⟩ := h
    have : vs = [] := List.eq_nil_of_length_eq_zero hl
    subst this
    exact ⟨as, r, Tr.refl _ _ _ _, All2.nil⟩
  | ((ct, o), e) :: fl, vs, st, as, cells, hp', r, h, hl, hres, hnd, hav => by
    have hfresh : Mem.le (fresh w G' B0) (fresh w G B) := fun g ob hh => ⟨hh.1, fun hG => hh.2.1 (hold g hh.2.2 hG), Nat.le_trans hB0 hh.2.2⟩
    cases vs with
    | nil => simp at hl
    | cons v vs =>
      have h0 := hres 0 _ _ rfl rfl
      have hres' : ∀ (i : Nat) x v', fl[i]? = some x → vs[i]? = some v' → ResC B0 w G' x.1 (x.2.den Γ ρ) v' := fun i x v' hx hv => hres (i + 1) x v' (by simpa using hx) (by simpa using hv)
      have hl' : vs.length = fl.length := by simpa using hl
      have plain : ∀ (hne : ∀ (ag : Bool) (cs : List CT) (t : TypeId), ¬ (ct = .slice ag cs ∧ o = some t)), (∃ l, adoptCells fl st.heap = (l, hp') ∧ cells = scOf true ct e :: l) →
          ∃ as', Rel Γ gt ρ B G { st with heap := hp' } as' vss w ∧ Tr Γ ρ st.heap as hp' as' ∧ RepCs Γ ρ hp' as' (stable w G) (fresh w G B) cells (v :: vs) := by
        intro hne ⟨l, h1, h2⟩
        have hoc : ownCells (((ct, o), e) :: fl |>.map (·.1)) (v :: vs) = ownCells (fl.map (·.1)) vs := by
          unfold ownCells
          simp only [List.map_cons, List.zip_cons_cons, List.filterMap_cons]
          split
          · rfl
          · rename_i b hb
            exfalso
            split at hb
            · rename_i ag cs t u heq
              injection heq with heq _
              injection heq with e1 e2
              exact hne ag cs t ⟨e1, e2⟩
            · cases hb
        rw [hoc] at hnd hav
        obtain ⟨as', k1, k2, k3⟩ := adoptCells_rel hB0 hsub hold r h1 hl' hres' hnd hav
        refine ⟨as', k1, k2, ?_⟩
        subst h2
        refine All2.cons ?_ k3
        have hrt : RepT (fresh w G' B0) ct (e.den Γ ρ) v := by
          unfold ResC at h0
          split at h0
          · rename_i ag cs t heq
            injection heq with e1 e2
            exact absurd ⟨e1, e2⟩ (hne ag cs t)
          · rename_i ct' o' _ heq
            injection heq with e1 e2
            rw [e1]
            exact h0
        exact scOf_rep (fr := true) (hrt.mono hfresh)
      unfold adoptCells at h
      split at h
      · rename_i ag cs t
        split at h
        rename_i l hp'' hrec
        simp only [Prod.mk.injEq] at h
        obtain ⟨rfl, rfl⟩ := h
        obtain ⟨xs, h1, h2, h3⟩ := h0
        have hoc : ownCells (((CT.slice ag cs, some t), e) :: fl |>.map (·.1)) (v :: vs) = (match gOf v with | some g => g :: ownCells (fl.map (·.1)) vs | none => ownCells (fl.map (·.1)) vs) := by
          unfold ownCells
          simp only [List.map_cons, List.zip_cons_cons, List.filterMap_cons]
          split <;> rename_i hb <;> rw [hb]
        rw [hoc] at hnd hav
        have hown : w.ownsRow B t cs.length v (e.den Γ ρ).asList.length xs := by
          refine ⟨h1.1, ?_⟩
          rcases h1.2 with h | ⟨g, cap, cur, q1, q2, q3⟩
          · exact .inl h
          · exact .inr ⟨g, cap, cur, q1, Nat.le_trans hB0 q2, q3⟩
        have r2 := r.adopt (blk := ⟨0, true, true, t, ag, cs, .row e⟩) (c := e) (va := v) rfl rfl hown (h2.mono hfresh) (fun g hg => by
          rw [hg] at hav
          exact ⟨hsub g (h3 g hg), fun b k u a1 a2 a3 a4 => hav b k u g a1 a2 a3 a4 (by simp)⟩)
        have tr1 := Tr.push Γ ρ st.heap as r.alen ⟨0, true, true, t, ag, cs, .row e⟩ v
        have hal := r.alen
        have hrest := adoptCells_rel hB0 hsub hold r2 hrec hl' hres' (by
          cases hg : gOf v with
          | none => rw [hg] at hnd; exact hnd
          | some g => rw [hg] at hnd; exact (List.nodup_cons.1 hnd).2) (by
          intro b k u g a1 a2 a3 a4
          rcases get_push a1 with q1 | ⟨e1, f1⟩ <;> rcases get_push a2 with q2 | ⟨e2, f2⟩
          · have := hav b k u g q1 q2 a3 a4
            cases hg : gOf v with
            | none => rw [hg] at this; exact this
            | some g' => rw [hg] at this; simp only [List.mem_cons, not_or] at this; exact this.2
          · exfalso; have := (List.getElem?_eq_some_iff.1 q1).1; omega
          · exfalso; have := (List.getElem?_eq_some_iff.1 q2).1; omega
          · subst f2
            rw [a4] at hnd
            exact (List.nodup_cons.1 hnd).1)
        obtain ⟨as', k1, k2, k3⟩ := hrest
        refine ⟨as', k1, tr1.trans k2, All2.cons ?_ k3⟩
        have hnew : RepC Γ ρ (st.heap ++ [⟨0, true, true, t, ag, cs, .row e⟩]) (as ++ [v]) (stable w G) (fresh w G B) (.own st.heap.length 0) v := by
          refine ⟨?_, _, v, List.getElem?_concat_length, by rw [← hal]; exact List.getElem?_concat_length, Nat.le_refl _, fun _ => ⟨rfl, e, rfl⟩⟩
          rcases hown.2 with ⟨q, _⟩ | ⟨g, cap, cur, q, _⟩ <;> (rw [q]; rfl)
        exact RepC.tr k2 (Mem.le.refl _) (Mem.le.refl _) hnew
      · rename_i hne
        split at h
        rename_i l hp'' hrec
        simp only [Prod.mk.injEq] at h
        obtain ⟨rfl, rfl⟩ := h
        exact plain (fun ag cs t ⟨e1, e2⟩ => hne ag cs t e1 e2) ⟨l, hrec, rfl⟩
end
end Go.Proofs.YtccpepheooleoaaDoor
