/- Symbolic runs, part o: states are brought to a common form: at a loop's head. -/
import Derived.Test.YtccpepheooleoaaDoorSn
namespace Go.Proofs.YtccpepheooleoaaDoor
set_option linter.unusedSimpArgs false
set_option linter.unusedVariables false
set_option linter.unusedSectionVars false
open Go.RowKit

/-! ### Substitution of the variables from n on -/
def E.subst (n : Nat) (σ : List E) : E → E
  | .v i => if Nat.blt i n then .v i else σ.getD (i - n) (.int 0)
  | .cons a b => .cons (a.subst n σ) (b.subst n σ)
  | .o1 p a => .o1 p (a.subst n σ)
  | .o2 p a b => .o2 p (a.subst n σ) (b.subst n σ)
  | .o3 p a b c => .o3 p (a.subst n σ) (b.subst n σ) (c.subst n σ)
  | e => e
theorem E.subst_den {Γ : CEnv} {ρ ρ' : List TV} {n : Nat} {σ : List E} (hn : ρ.length = n) (hp : ∀ i, i < n → ρ'.getD i (.int 0) = ρ.getD i (.int 0)) : ∀ e : E, (e.subst n σ).den Γ ρ' = e.den Γ (ρ ++ σ.map (·.den Γ ρ')) := by
  intro e
  induction e with
  | v i =>
    simp only [E.subst]
    split
    · rename_i h
      simp only [Nat.blt_eq] at h
      simp only [E.den]
      rw [hp i h, getD_app _ _ _ _ (by omega)]
    · rename_i h
      simp only [Nat.blt_eq] at h
      simp only [E.den, List.getD_eq_getElem?_getD]
      rw [List.getElem?_append_right (by omega), List.getElem?_map, hn]
      cases σ[i - n]? <;> rfl
  | cons a b iha ihb => simp only [E.subst, E.den, iha, ihb]
  | o1 p a ih => simp only [E.subst, E.den, ih]
  | o2 p a b iha ihb => simp only [E.subst, E.den, iha, ihb]
  | o3 p a b c iha ihb ihc => simp only [E.subst, E.den, iha, ihb, ihc]
  | _ => rfl

/-- A change of a cell's expressions and references. -/
structure Mv where
  e : E → E
  ref : Nat → Nat → Option (Nat × Nat)
def Mv.caps (μ : Mv) : List (Nat × Nat) → Option (List (Nat × Nat))
  | [] => some []
  | (b, v) :: r => match μ.ref b v, μ.caps r with
    | some x, some l => some (x :: l)
    | _, _ => none
def SC.mv (μ : Mv) : SC → SC
  | .undef => .undef
  | .int k e => .int k (μ.e e)
  | .bool e => .bool (μ.e e)
  | .str e => .str (μ.e e)
  | .nil => .nil
  | .imm fr ag cs e => .imm fr ag cs (μ.e e)
  | .own b v => match μ.ref b v with
    | some (b', v') => .own b' v'
    | none => .undef
  | .sub b v lo hi => match μ.ref b v with
    | some (b', v') => .sub b' v' (μ.e lo) (μ.e hi)
    | none => .undef
  | .ptr b v i c => match μ.ref b v with
    | some (b', v') => .ptr b' v' (μ.e i) c
    | none => .undef
  | .pel fr ag cs e i c => .pel fr ag cs (μ.e e) (μ.e i) c
  | .fn f caps => match μ.caps caps with
    | some l => .fn f l
    | none => .undef
  | .lit u => .lit u
def SV.mv (μ : Mv) : SV → SV
  | .sc s => .sc (s.mv μ)
  | .agg cs => .agg (cs.map (·.mv μ))
  | .tup ps => .tup (ps.map fun p => (p.1, p.2.map (·.mv μ)))
def Cont.mv (μ : Mv) : Cont → Cont
  | .dead => .dead
  | .box cs => .box (cs.map (·.mv μ))
  | .row e => .row (μ.e e)
def Blk.mv (μ : Mv) (b : Blk) (ver : Nat) : Blk := { b with ver := ver, cont := b.cont.mv μ }

section
variable {Γ : CEnv} {gt : GT} {ρ ρ' : List TV} {hp hp' : List Blk} {as as' : List Value} {M Mf : Mem} {μ : Mv}

/-- What a change must keep. -/
structure Mv.Ok (Γ : CEnv) (ρ ρ' : List TV) (hp hp' : List Blk) (as as' : List Value) (μ : Mv) : Prop where
  e : ∀ e, (μ.e e).den Γ ρ' = e.den Γ ρ
  ref : ∀ b v b' v', μ.ref b v = some (b', v') → ∀ (blk : Blk) (va : Value), hp[b]? = some blk → as[b]? = some va → v ≤ blk.ver →
    ∃ (blk' : Blk) (va' : Value), hp'[b']? = some blk' ∧ as'[b']? = some va' ∧ v' ≤ blk'.ver ∧ (blk'.ver = v' → blk.ver = v ∧ va' = va ∧ blk'.size = blk.size ∧ blk'.len Γ ρ' = blk.len Γ ρ ∧ ∀ e, blk.cont = .row e → ∃ e', blk'.cont = .row e')

theorem Mv.refTo (h : Mv.Ok Γ ρ ρ' hp hp' as as' μ) {b v b' v' : Nat} {X Y : Blk → Value → Prop} (hr : μ.ref b v = some (b', v')) (r : RefTo hp as b v X)
    (k : ∀ blk va blk', X blk va → blk'.size = blk.size → blk'.len Γ ρ' = blk.len Γ ρ → (∀ e, blk.cont = .row e → ∃ e', blk'.cont = .row e') → Y blk' va) : RefTo hp' as' b' v' Y := by
  obtain ⟨blk, va, h1, h2, h3, h4⟩ := r
  obtain ⟨blk', va', g1, g2, g3, g4⟩ := h.ref b v b' v' hr blk va h1 h2 h3
  refine ⟨blk', va', g1, g2, g3, fun e => ?_⟩
  obtain ⟨e1, rfl, e2, e3, e4⟩ := g4 e
  exact k blk _ blk' (h4 e1) e2 e3 e4
theorem RepPtr.mv (h : Mv.Ok Γ ρ ρ' hp hp' as as' μ) {b v b' v' : Nat} (hr : μ.ref b v = some (b', v')) {i : Int} {c : Nat} {u : Value} (r : RepPtr Γ ρ hp as b v i c u) : RepPtr Γ ρ' hp' as' b' v' i c u :=
  Mv.refTo h hr r fun blk va blk' ⟨n, g, h1, h2, h3, h4, h5⟩ e2 e3 _ => ⟨n, g, by rw [e3]; exact h1, h2, h3, h4, by rw [e2]; exact h5⟩
theorem RepC.mv (h : Mv.Ok Γ ρ ρ' hp hp' as as' μ) {s : SC} {v : Value} (r : RepC Γ ρ hp as M Mf s v) : RepC Γ ρ' hp' as' M Mf (s.mv μ) v := by
  cases s with
  | undef => trivial
  | int k e => simp only [SC.mv, RepC, h.e]; exact r
  | bool e => simp only [SC.mv, RepC, h.e]; exact r
  | str e => simp only [SC.mv, RepC, h.e]; exact r
  | nil => exact r
  | imm fr ag cs e => simp only [SC.mv, RepC, h.e]; exact r
  | own b ver =>
    simp only [SC.mv]
    split
    · rename_i b' v' hr
      exact ⟨r.1, Mv.refTo h hr r.2 fun blk va blk' ⟨x, e, hx⟩ _ _ k => ⟨x, k e hx⟩⟩
    · trivial
  | sub b ver lo hi =>
    simp only [SC.mv]
    split
    · rename_i b' v' hr
      refine ⟨r.1, Mv.refTo h hr r.2 fun blk va blk' ⟨⟨n, h1, h2, h3, h4, a, cap, h5, h6, h7, h8, h9⟩, e, hx⟩ e2 e3 k => ⟨⟨n, by rw [e3]; exact h1, ?_, ?_, ?_, a, cap, ?_, ?_, h7, h8, ?_⟩, k e hx⟩⟩
      all_goals simp only [h.e]
      · exact h2
      · exact h3
      · exact h4
      · exact h5
      · exact h6
      · rcases h9 with h9 | ⟨g, l, c, h9, h10⟩
        · exact .inl h9
        · exact .inr ⟨g, l, c, h9, by rw [e2]; exact h10⟩
    · trivial
  | ptr b ver i c =>
    simp only [SC.mv]
    split
    · rename_i b' v' hr
      simp only [RepC, h.e]
      exact ⟨r.1, RepPtr.mv h hr r.2⟩
    · trivial
  | pel fr ag cs e i c => simp only [SC.mv, RepC, h.e]; exact r
  | fn f caps =>
    simp only [SC.mv]
    split
    · rename_i l hl
      obtain ⟨vs, h1, h2⟩ := r
      refine ⟨vs, h1, ?_⟩
      clear h1
      induction caps generalizing l vs with
      | nil =>
        simp only [Mv.caps, Option.some.injEq] at hl
        subst hl
        have : vs = [] := List.eq_nil_of_length_eq_zero h2.1.symm
        subst this
        exact All2.nil
      | cons x xs ih =>
        obtain ⟨b, v'⟩ := x
        simp only [Mv.caps] at hl
        split at hl
        · rename_i y l' e1 e2
          simp only [Option.some.injEq] at hl
          subst hl
          cases vs with
          | nil => have := h2.1; simp at this
          | cons u us =>
            refine All2.cons ?_ (ih l' e2 us (by simpa using h2.drop 1))
            exact ⟨(h2.2 0 _ _ rfl rfl).1, RepPtr.mv h e1 (h2.2 0 _ _ rfl rfl).2⟩
        · cases hl
    · trivial
  | lit u => exact r
theorem All2.mapl {α β γ : Type} {R : α → β → Prop} {S : γ → β → Prop} {f : α → γ} {xs : List α} {ys : List β} (h : All2 R xs ys) (k : ∀ x y, R x y → S (f x) y) : All2 S (xs.map f) ys :=
  ⟨by simp [h.1], fun i x y hx hy => by
    rw [List.getElem?_map] at hx
    cases hq : xs[i]? with
    | none => rw [hq] at hx; cases hx
    | some a => rw [hq] at hx; simp only [Option.map_some, Option.some.injEq] at hx; rw [← hx]; exact k a y (h.2 i a y hq hy)⟩
theorem RepCs.mv (h : Mv.Ok Γ ρ ρ' hp hp' as as' μ) {s : List SC} {v : List Value} (r : RepCs Γ ρ hp as M Mf s v) : RepCs Γ ρ' hp' as' M Mf (s.map (·.mv μ)) v := All2.mapl r fun _ _ => RepC.mv h
theorem RepV.mv (h : Mv.Ok Γ ρ ρ' hp hp' as as' μ) {s : SV} {v : Value} (r : RepV Γ ρ hp as M Mf s v) : RepV Γ ρ' hp' as' M Mf (s.mv μ) v := by
  cases s with
  | sc s => exact RepC.mv h r
  | agg cs => obtain ⟨vs, h1, h2⟩ := r; exact ⟨vs, h1, h2.mv h⟩
  | tup ps =>
    obtain ⟨vs, h1, h2⟩ := r
    refine ⟨vs, h1, All2.mapl h2 fun x y hx => ?_⟩
    unfold RepP at *
    dsimp only
    split at hx
    · obtain ⟨us, k1, k2⟩ := hx; rw [if_pos ‹_›]; exact ⟨us, k1, k2.mv h⟩
    · obtain ⟨s, k1, k2⟩ := hx; rw [if_neg ‹_›]; exact ⟨s.mv μ, by rw [k1]; rfl, RepC.mv h k2⟩
theorem BlkRel.mv (h : Mv.Ok Γ ρ ρ' hp hp' as as' μ) {B : Nat} {w : World} {blk : Blk} {va : Value} {ver : Nat} (r : BlkRel Γ ρ hp as M Mf B w blk va) : BlkRel Γ ρ' hp' as' M Mf B w (blk.mv μ ver) va := by
  unfold BlkRel at *
  cases hc : blk.cont with
  | dead => simp only [Blk.mv, hc, Cont.mv]
  | box cs =>
    simp only [Blk.mv, hc, Cont.mv] at r ⊢
    obtain ⟨g, cur, h1, h2, h3, h4⟩ := r
    exact ⟨g, cur, h1, h2, h3, h4.mv h⟩
  | row e =>
    simp only [Blk.mv, hc, Cont.mv, h.e] at r ⊢
    exact r
theorem Blk.mv_live (b : Blk) (ver : Nat) : (b.mv μ ver).live = b.live := by cases hc : b.cont <;> simp [Blk.live, Blk.mv, hc, Cont.mv]
theorem Blk.mv_size (b : Blk) (ver : Nat) : (b.mv μ ver).size = b.size := by cases hc : b.cont <;> simp [Blk.size, Blk.mv, hc, Cont.mv]
theorem Blk.mv_len (h : ∀ e, (μ.e e).den Γ ρ' = e.den Γ ρ) (b : Blk) (ver : Nat) : (b.mv μ ver).len Γ ρ' = b.len Γ ρ := by cases hc : b.cont <;> simp [Blk.len, Blk.mv, hc, Cont.mv, h]
end

/-! ### Blocks are put in order; a nil slice may become a row of the call's own -/
inductive BSrc where
  | keep (b : Nat)
  | virt (fr : Bool) (e : TypeId) (ag : Bool) (cs : List CT)
def posOf : List BSrc → Nat → Nat → Option Nat
  | [], _, _ => none
  | .keep b' :: r, b, j => if Nat.beq b' b then some j else posOf r b (j + 1)
  | .virt .. :: r, b, j => posOf r b (j + 1)
def ordMv (hp : List Blk) (src : List BSrc) : Mv := ⟨id, fun b v => match hp[b]? with
  | some blk => if Nat.beq blk.ver v then (match posOf src b 0 with
    | some j => some (j, 0)
    | none => none) else none
  | none => none⟩
def ordBlk (hp : List Blk) (μ : Mv) : BSrc → Blk
  | .keep b => match hp[b]? with
    | some blk => blk.mv μ 0
    | none => ⟨0, false, true, 0, false, [], .dead⟩
  | .virt fr e ag cs => ⟨0, true, fr, e, ag, cs, .row .nil⟩
def ordVal (as : List Value) : BSrc → Value
  | .keep b => as.getD b undef
  | .virt .. => .slice none 0 0
def keeps : List BSrc → List Nat
  | [] => []
  | .keep b :: r => b :: keeps r
  | .virt .. :: r => keeps r
def nodupN : List Nat → Bool
  | [] => true
  | x :: r => !(r.any (Nat.beq x)) && nodupN r
/-- Slots that hold nil and shall be rows from now on: slot, number of the block. -/
def promote (ps : List (Nat × Nat)) (src : List BSrc) (f : List SV) : List SV := match ps with
  | [] => f
  | (t, j) :: r => match f[t]?, src[j]? with
    | some (.sc .nil), some (.virt ..) => promote r src (f.set t (.sc (.own j 0)))
    | _, _ => promote r src f
def promoteC (ps : List (Nat × Nat × Nat)) (src : List BSrc) (hp : List Blk) : List Blk := match ps with
  | [] => hp
  | (b, c, j) :: r => match hp[b]?, src[j]? with
    | some blk, some (.virt ..) => match blk.cont with
      | .box cs => match cs[c]? with
        | some .nil => promoteC r src (hp.set b { blk with cont := .box (cs.set c (.own j 0)) })
        | _ => promoteC r src hp
      | _ => promoteC r src hp
    | _, _ => promoteC r src hp
def killDead (live : List Nat) (f : List SV) : List SV := f.zipIdx.map fun (s, i) => if live.any (Nat.beq i) then s else .sc .undef
def ordSt (st : SS) (src : List BSrc) : SS := let μ := ordMv st.heap src; { st with frames := st.frames.map (·.map (·.mv μ)), heap := src.map (ordBlk st.heap μ) }

section
variable {Γ : CEnv} {gt : GT} {ρ : List TV} {B : Nat} {G : Nat → Prop} {st : SS} {as : List Value} {vss : List (Array Value)} {w : World}
theorem posOf_get : ∀ {src : List BSrc} {b j k : Nat}, posOf src b j = some k → j ≤ k ∧ src[k - j]? = some (.keep b)
  | [], b, j, k, h => by simp [posOf] at h
  | .keep b' :: r, b, j, k, h => by
    simp only [posOf] at h
    split at h
    · rename_i e
      simp only [Option.some.injEq] at h
      subst h
      rw [Nat.eq_of_beq_eq_true e]
      exact ⟨Nat.le_refl _, by simp⟩
    · obtain ⟨h1, h2⟩ := posOf_get h
      refine ⟨by omega, ?_⟩
      rw [show k - j = (k - (j + 1)) + 1 by omega, List.getElem?_cons_succ]
      exact h2
  | .virt .. :: r, b, j, k, h => by
    simp only [posOf] at h
    obtain ⟨h1, h2⟩ := posOf_get h
    refine ⟨by omega, ?_⟩
    rw [show k - j = (k - (j + 1)) + 1 by omega, List.getElem?_cons_succ]
    exact h2
theorem nodupN_spec : ∀ {l : List Nat}, nodupN l = true → l.Nodup
  | [], _ => List.nodup_nil
  | x :: r, h => by
    simp only [nodupN, Bool.and_eq_true, Bool.not_eq_true', List.any_eq_false] at h
    refine List.nodup_cons.2 ⟨fun hx => ?_, nodupN_spec h.2⟩
    have := h.1 x hx
    simp at this
theorem keeps_inj : ∀ {src : List BSrc} {b i j : Nat}, (keeps src).Nodup → src[i]? = some (.keep b) → src[j]? = some (.keep b) → i = j
  | [], b, i, j, hn, h1, h2 => by simp at h1
  | x :: r, b, i, j, hn, h1, h2 => by
    have mem : ∀ {r : List BSrc} {k : Nat}, r[k]? = some (.keep b) → b ∈ keeps r := by
      intro r
      induction r with
      | nil => intro k h; simp at h
      | cons y r ih =>
        intro k h
        cases k with
        | zero => simp at h; subst h; simp [keeps]
        | succ k =>
          have := ih (k := k) (by simpa using h)
          cases y <;> simp [keeps, this]
    cases i with
    | zero =>
      simp at h1
      subst h1
      simp only [keeps, List.nodup_cons] at hn
      cases j with
      | zero => rfl
      | succ j => exact absurd (mem (by simpa using h2)) hn.1
    | succ i =>
      cases j with
      | zero =>
        simp at h2
        subst h2
        simp only [keeps, List.nodup_cons] at hn
        exact absurd (mem (by simpa using h1)) hn.1
      | succ j =>
        have hn' : (keeps r).Nodup := by
          cases x with
          | keep b' => simp only [keeps, List.nodup_cons] at hn; exact hn.2
          | virt => exact hn
        rw [keeps_inj hn' (i := i) (j := j) (by simpa using h1) (by simpa using h2)]

theorem ord_ok (r : Rel Γ gt ρ B G st as vss w) (src : List BSrc) : Mv.Ok Γ ρ ρ st.heap (src.map (ordBlk st.heap (ordMv st.heap src))) as (src.map (ordVal as)) (ordMv st.heap src) where
  e := fun _ => rfl
  ref := by
    intro b v b' v' h blk va h1 h2 h3
    simp only [ordMv, h1] at h
    split at h
    · rename_i hv
      split at h
      · rename_i j hj
        simp only [Option.some.injEq, Prod.mk.injEq] at h
        obtain ⟨rfl, rfl⟩ := h
        obtain ⟨_, hp⟩ := posOf_get hj
        rw [Nat.sub_zero] at hp
        refine ⟨blk.mv (ordMv st.heap src) 0, va, ?_, ?_, Nat.zero_le _, fun _ => ⟨Nat.eq_of_beq_eq_true hv, rfl, Blk.mv_size _ _, Blk.mv_len (fun _ => rfl) _ _, fun e he => ⟨_, by simp only [Blk.mv, he, Cont.mv]; rfl⟩⟩⟩
        · rw [List.getElem?_map, hp]; simp only [Option.map_some, ordBlk, h1]
        · rw [List.getElem?_map, hp]; simp only [Option.map_some, ordVal, List.getD_eq_getElem?_getD, h2, Option.getD_some]
      · cases h
    · cases h

theorem Rel.ord (r : Rel Γ gt ρ B G st as vss w) (src : List BSrc) (hn : nodupN (keeps src) = true) : Rel Γ gt ρ B G (ordSt st src) (src.map (ordVal as)) vss w := by
  have ok := ord_ok r src
  have hnd := nodupN_spec hn
  have look : ∀ (j : Nat) (blk : Blk) (va : Value), (src.map (ordBlk st.heap (ordMv st.heap src)))[j]? = some blk → (src.map (ordVal as))[j]? = some va → blk.live = true → ∀ g, gOf va = some g →
      ∃ b blk0, src[j]? = some (.keep b) ∧ st.heap[b]? = some blk0 ∧ as[b]? = some va ∧ blk0.live = true := by
    intro j blk va h1 h2 hl g hg
    rw [List.getElem?_map] at h1 h2
    cases hs : src[j]? with
    | none => rw [hs] at h1; cases h1
    | some x =>
      rw [hs] at h1 h2
      simp only [Option.map_some, Option.some.injEq] at h1 h2
      cases x with
      | virt => simp only [ordVal] at h2; subst h2; cases hg
      | keep b =>
        simp only [ordBlk] at h1
        cases hb : st.heap[b]? with
        | none => rw [hb] at h1; subst h1; cases hl
        | some blk0 =>
          rw [hb] at h1
          simp only at h1
          subst h1
          have hlt : b < as.length := by rw [r.alen]; exact (List.getElem?_eq_some_iff.1 hb).1
          refine ⟨b, blk0, rfl, hb, ?_, by rw [← hl, Blk.mv_live]⟩
          rw [← h2]
          simp only [ordVal, List.getD_eq_getElem?_getD, List.getElem?_eq_getElem hlt, Option.getD_some]
  refine ⟨r.nv, ?_, by simp [ordSt], ?_, ?_, ?_, r.base, r.gs, r.globs⟩
  · refine All2.mapl r.frames fun f vs hf => All2.mapl hf fun s v hs => RepV.mv ok hs
  · intro j blk va h1 h2
    simp only [ordSt] at h1
    rw [List.getElem?_map] at h1 h2
    cases hs : src[j]? with
    | none => rw [hs] at h1; cases h1
    | some x =>
      rw [hs] at h1 h2
      simp only [Option.map_some, Option.some.injEq] at h1 h2
      subst h1 h2
      cases x with
      | virt fr e ag cs => exact BlkRel.ownRow rfl rfl ⟨[], World.ownsRow_nil _ _ _ _, RowT.nil⟩
      | keep b =>
        simp only [ordBlk]
        cases hb : st.heap[b]? with
        | none => exact trivial
        | some blk0 =>
          have hlt : b < as.length := by rw [r.alen]; exact (List.getElem?_eq_some_iff.1 hb).1
          have hva := List.getElem?_eq_getElem hlt
          simp only [ordVal, List.getD_eq_getElem?_getD, hva, Option.getD_some]
          exact BlkRel.mv ok (r.blks b blk0 _ hb hva)
  · intro j blk va g h1 h2 hl hg
    obtain ⟨b, blk0, _, k2, k3, k4⟩ := look j blk va h1 h2 hl g hg
    exact r.own b blk0 va g k2 k3 k4 hg
  · intro j j' blk blk' va va' g h1 h2 hl hg h3 h4 hl' hg'
    obtain ⟨b, blk0, k1, k2, k3, k4⟩ := look j blk va h1 h2 hl g hg
    obtain ⟨b', blk0', q1, q2, q3, q4⟩ := look j' blk' va' h3 h4 hl' g hg'
    have := r.dist b b' blk0 blk0' va va' g k2 k3 k4 hg q2 q3 q4 hg'
    subst this
    exact keeps_inj hnd k1 q1

/-- Slots of the present frame that say less. -/
theorem Rel.frame (r : Rel Γ gt ρ B G st as vss w) {f f' : List SV} {fs : List (List SV)} (hf : st.frames = f :: fs) (h : ∀ vals : List Value, All2 (RepV Γ ρ st.heap as (stable w G) (fresh w G B)) f vals → All2 (RepV Γ ρ st.heap as (stable w G) (fresh w G B)) f' vals) :
    Rel Γ gt ρ B G { st with frames := f' :: fs } as vss w := by
  have hr := r.frames
  rw [hf] at hr
  refine ⟨r.nv, ?_, r.alen, r.blks, r.own, r.dist, r.base, r.gs, r.globs⟩
  cases vss with
  | nil => have := hr.1; simp at this
  | cons v vs => exact All2.cons (h v.toList (hr.2 0 _ _ rfl rfl)) (by simpa using hr.drop 1)
theorem kill_rep {R : SV → Value → Prop} (hu : ∀ v, R (.sc .undef) v) (live : List Nat) {f : List SV} {vals : List Value} (h : All2 R f vals) : All2 R (killDead live f) vals := by
  refine ⟨by simp [killDead, h.1], fun i x y hx hy => ?_⟩
  simp only [killDead, List.getElem?_map, List.getElem?_zipIdx] at hx
  cases hq : f[i]? with
  | none => rw [hq] at hx; cases hx
  | some s =>
    rw [hq] at hx
    simp only [Option.map_some, Option.some.injEq] at hx
    split at hx
    · rw [← hx]; exact h.2 i s y hq hy
    · rw [← hx]; exact hu y

theorem own_virt {src : List BSrc} {j : Nat} {fr : Bool} {e : TypeId} {ag : Bool} {cs : List CT} {hp0 : List Blk} {μ : Mv} {hp : List Blk} {M Mf : Mem} (h : src[j]? = some (.virt fr e ag cs)) (hb : hp[j]? = some ⟨0, true, fr, e, ag, cs, .row .nil⟩) :
    RepC Γ ρ hp (src.map (ordVal as)) M Mf (.own j 0) (.slice none 0 0) :=
  ⟨rfl, _, .slice none 0 0, hb, by rw [List.getElem?_map, h]; rfl, Nat.le_refl _, fun _ => ⟨rfl, .nil, rfl⟩⟩
/-- The virtual rows stand where they were laid. -/
def VirtOk (hp : List Blk) (src : List BSrc) : Prop := ∀ (j : Nat) fr e ag cs, src[j]? = some (.virt fr e ag cs) → hp[j]? = some ⟨0, true, fr, e, ag, cs, .row .nil⟩
theorem virt_ord (hp : List Blk) (src : List BSrc) : VirtOk (src.map (ordBlk hp (ordMv hp src))) src := by
  intro j fr e ag cs h
  rw [List.getElem?_map, h]
  rfl
theorem promote_rep {src : List BSrc} {hp : List Blk} {M Mf : Mem} (hv : VirtOk hp src) : ∀ {ps : List (Nat × Nat)} {f : List SV} {vals : List Value}, All2 (RepV Γ ρ hp (src.map (ordVal as)) M Mf) f vals → All2 (RepV Γ ρ hp (src.map (ordVal as)) M Mf) (promote ps src f) vals
  | [], f, vals, h => h
  | (t, j) :: ps, f, vals, h => by
    simp only [promote]
    split
    · rename_i fr e ag cs h1 h2
      refine promote_rep hv ?_
      refine ⟨by simp [h.1], fun i x y hx hy => ?_⟩
      rcases set_get hx with ⟨rfl, rfl⟩ | ⟨hne, hx⟩
      · have : RepV Γ ρ hp (src.map (ordVal as)) M Mf (.sc .nil) y := h.2 _ _ _ h1 hy
        have : y = .slice none 0 0 := this
        subst this
        exact own_virt (Γ := Γ) (ρ := ρ) (M := M) (Mf := Mf) (hp0 := hp) (μ := ordMv hp src) h2 (hv _ _ _ _ _ h2)
      · exact h.2 i x y hx hy
    · exact promote_rep hv h

theorem Rel.recell (r : Rel Γ gt ρ B G st as vss w) {b : Nat} {blk : Blk} {cs cs' : List SC} (hb : st.heap[b]? = some blk) (hc : blk.cont = .box cs) (hl : cs'.length = cs.length)
    (h : ∀ vals, RepCs Γ ρ st.heap as (stable w G) (fresh w G B) cs vals → RepCs Γ ρ st.heap as (stable w G) (fresh w G B) cs' vals) : Rel Γ gt ρ B G { st with heap := st.heap.set b { blk with cont := .box cs' } } as vss w := by
  obtain ⟨va, hva⟩ : ∃ va, as[b]? = some va := ⟨_, List.getElem?_eq_getElem (by rw [r.alen]; exact (List.getElem?_eq_some_iff.1 hb).1)⟩
  have hlive : blk.live = true := by simp [Blk.live, hc]
  have tr : Tr Γ ρ st.heap as (st.heap.set b { blk with cont := .box cs' }) as := ⟨fun b' k v h1 h2 => by
    by_cases e : b' = b
    · subst e
      rw [hb] at h1
      injection h1 with h1
      subst h1
      exact ⟨_, v, get_set_self hb, h2, Nat.le_refl _, fun _ => ⟨rfl, by simp only [Blk.size, hc, hl], by simp only [Blk.len, hc], fun e he => by rw [hc] at he; cases he⟩⟩
    · exact ⟨k, v, by rw [get_set_ne e]; exact h1, h2, Nat.le_refl _, fun _ => ⟨rfl, rfl, rfl, fun e h => ⟨e, h⟩⟩⟩⟩
  have old : ∀ (b' : Nat) (k : Blk), (st.heap.set b { blk with cont := .box cs' })[b']? = some k → ∃ k0, st.heap[b']? = some k0 ∧ k.live = k0.live := by
    intro b' k h1
    rcases set_get h1 with ⟨rfl, rfl⟩ | ⟨_, h1⟩
    · exact ⟨blk, hb, by rw [hlive]; rfl⟩
    · exact ⟨k, h1, rfl⟩
  refine r.step _ tr (Mem.le.refl _) (Mem.le.refl _) (by simp [r.alen]) ?_ ?_ ?_ r.base r.gs
  · intro b' k v h1 h2
    rcases set_get h1 with ⟨rfl, rfl⟩ | ⟨_, h1⟩
    · rw [hva] at h2
      injection h2 with h2
      subst h2
      have := r.blks _ blk va hb hva
      unfold BlkRel at this
      rw [hc] at this
      dsimp only at this
      obtain ⟨g, cur, k1, k2, k3, k4⟩ := this
      exact ⟨g, cur, k1, k2, k3, RepCs.tr tr (Mem.le.refl _) (Mem.le.refl _) (h _ k4)⟩
    · exact BlkRel.tr tr (Mem.le.refl _) (Mem.le.refl _) (r.blks b' k v h1 h2) fun _ _ _ => rfl
  · intro b' k v g h1 h2 hlv hg
    obtain ⟨k0, q1, q2⟩ := old b' k h1
    exact r.own b' k0 v g q1 h2 (by rw [← q2]; exact hlv) hg
  · intro b1 b2 k1 k2 v1 v2 g h1 h2 hl1 hg1 h3 h4 hl2 hg2
    obtain ⟨j1, p1, p2⟩ := old b1 k1 h1
    obtain ⟨j2, q1, q2⟩ := old b2 k2 h3
    exact r.dist b1 b2 j1 j2 v1 v2 g p1 h2 (by rw [← p2]; exact hl1) hg1 q1 h4 (by rw [← q2]; exact hl2) hg2
theorem promoteC_rel {src : List BSrc} : ∀ {ps : List (Nat × Nat × Nat)} {hp : List Blk}, VirtOk hp src → Rel Γ gt ρ B G { st with heap := hp } (src.map (ordVal as)) vss w → VirtOk (promoteC ps src hp) src ∧ Rel Γ gt ρ B G { st with heap := promoteC ps src hp } (src.map (ordVal as)) vss w
  | [], hp, hv, r => ⟨hv, r⟩
  | (b, c, j) :: ps, hp, hv, r => by
    simp only [promoteC]
    split
    · rename_i blk fr e ag cs h1 h2
      split
      · rename_i cs0 hc
        split
        · rename_i h3
          have r2 := r.recell (b := b) (blk := blk) (cs := cs0) (cs' := cs0.set c (.own j 0)) h1 hc (by simp) (fun vals hvs => by
            refine ⟨by simp [hvs.1], fun i x y hx hy => ?_⟩
            rcases set_get hx with ⟨rfl, rfl⟩ | ⟨_, hx⟩
            · have : RepC Γ ρ hp (src.map (ordVal as)) (stable w G) (fresh w G B) .nil y := hvs.2 _ _ _ h3 hy
              have : y = .slice none 0 0 := this
              subst this
              exact own_virt (hp0 := hp) (μ := ordMv hp src) h2 (hv _ _ _ _ _ h2)
            · exact hvs.2 i x y hx hy)
          refine promoteC_rel ?_ r2
          intro j' fr' e' ag' cs' hj
          by_cases hbj : j' = b
          · subst hbj
            rw [hv _ _ _ _ _ hj] at h1
            injection h1 with h1
            subst h1
            cases hc
          · rw [get_set_ne hbj]
            exact hv _ _ _ _ _ hj
        · exact promoteC_rel hv r
      · exact promoteC_rel hv r
    · exact promoteC_rel hv r

/-! ### A loop's head: what is kept, in which order; which of it is open -/
inductive BRef where
  | blk (b : Nat)
  | slot (t : Nat) (fr : Bool) (e : TypeId) (ag : Bool) (cs : List CT)
  | cell (t c : Nat) (fr : Bool) (e : TypeId) (ag : Bool) (cs : List CT)
  | cap (t i : Nat)
structure Head where
  live : List Nat
  refs : List BRef
  slots : List Nat
  rows : List Nat
  cells : List (Nat × Nat)
/-- The block behind a slot. -/
def blkOf (st : SS) (t : Nat) : Option Nat := match st.top[t]? with
  | some (.sc (.own b _)) => some b
  | some (.sc (.ptr b _ _ _)) => some b
  | some (.sc (.sub b _ _ _)) => some b
  | _ => none
def srcOf (st : SS) : BRef → BSrc
  | .blk b => .keep b
  | .slot t fr e ag cs => match blkOf st t with
    | some b => .keep b
    | none => .virt fr e ag cs
  | .cell t c fr e ag cs => match blkOf st t with
    | some b => match st.heap[b]? with
      | some blk => match blk.cont with
        | .box l => match l[c]? with
          | some (.own b' _) => .keep b'
          | some (.ptr b' _ _ _) => .keep b'
          | _ => .virt fr e ag cs
        | _ => .virt fr e ag cs
      | none => .virt fr e ag cs
    | none => .virt fr e ag cs
  | .cap t i => match st.top[t]? with
    | some (.sc (.fn _ caps)) => match caps[i]? with
      | some (b, _) => .keep b
      | none => .virt true 0 false []
    | _ => .virt true 0 false []
def slotPs : List BRef → Nat → List (Nat × Nat)
  | [], _ => []
  | .slot t .. :: r, j => (t, j) :: slotPs r (j + 1)
  | _ :: r, j => slotPs r (j + 1)
/-- Boxes by their new numbers. -/
def cellPs (st : SS) (src : List BSrc) : List BRef → Nat → List (Nat × Nat × Nat)
  | [], _ => []
  | .cell t c .. :: r, j => match blkOf st t with
    | some b => match posOf src b 0 with
      | some b' => (b', c, j) :: cellPs st src r (j + 1)
      | none => cellPs st src r (j + 1)
    | none => cellPs st src r (j + 1)
  | _ :: r, j => cellPs st src r (j + 1)
def norm (h : Head) (st : SS) : Option SS := match st.frames with
  | f :: fs =>
    let st1 : SS := { st with frames := killDead h.live f :: fs }
    let src := h.refs.map (srcOf st1)
    if nodupN (keeps src) then
      let st2 := ordSt st1 src
      match st2.frames with
      | f2 :: fs2 => some { st2 with frames := promote (slotPs h.refs 0) src f2 :: fs2, heap := promoteC (cellPs st1 src h.refs 0) src st2.heap }
      | [] => none
    else none
  | [] => none
theorem norm_rel (r : Rel Γ gt ρ B G st as vss w) {h : Head} {st' : SS} (hn : norm h st = some st') : ∃ as', Rel Γ gt ρ B G st' as' vss w := by
  unfold norm at hn
  split at hn
  · rename_i f fs hf
    dsimp only at hn
    split at hn
    · rename_i hnd
      have r1 := r.frame hf (f' := killDead h.live f) fun vals hv => kill_rep (fun _ => trivial) _ hv
      have r2 := r1.ord _ hnd
      split at hn
      · rename_i f2 fs2 hf2
        simp only [Option.some.injEq] at hn
        subst hn
        have hvo := virt_ord st.heap (h.refs.map (srcOf { st with frames := killDead h.live f :: fs }))
        have r3 := r2.frame hf2 (f' := promote (slotPs h.refs 0) (h.refs.map (srcOf { st with frames := killDead h.live f :: fs })) f2) fun vals hv => promote_rep (src := h.refs.map (srcOf { st with frames := killDead h.live f :: fs })) (by exact hvo) hv
        have r4 := promoteC_rel (st := ⟨promote (slotPs h.refs 0) (h.refs.map (srcOf { st with frames := killDead h.live f :: fs })) f2 :: fs2, [], st.nv, st.lvl⟩) (ps := cellPs { st with frames := killDead h.live f :: fs } (h.refs.map (srcOf { st with frames := killDead h.live f :: fs })) h.refs 0) (hp := (ordSt { st with frames := killDead h.live f :: fs } (h.refs.map (srcOf { st with frames := killDead h.live f :: fs }))).heap) (by exact hvo) r3
        exact ⟨_, r4.2⟩
      · cases hn
    · cases hn
  · cases hn
end
end Go.Proofs.YtccpepheooleoaaDoor
