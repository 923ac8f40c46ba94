/- Symbolic runs, part u: the code of a function; a function's contract. -/
import Derived.Test.YtccpepheooleoaaDoorSt
namespace Go.Proofs.YtccpepheooleoaaDoor
set_option linter.unusedSimpArgs false
set_option linter.unusedVariables false
set_option linter.unusedSectionVars false
open Go.RowKit

inductive Ex where
  | normal
  | exit (id : Nat)
  | ret
def Ex.to : Ex → Exit
  | .normal => .normal
  | .exit id => .exit id
  | .ret => .ret
def planFind : List (FuncId × Nat × Nat × List (Bool × Nat)) → FuncId → Nat → Option (Nat × List (Bool × Nat))
  | [], _, _ => none
  | (f, i, n, pl) :: r, g, j => if Nat.beq f g && Nat.beq i j then some (n, pl) else planFind r g j
def headFind : List (FuncId × Nat × Head) → FuncId → Nat → Option Head
  | [], _, _ => none
  | (f, i, h) :: r, g, j => if Nat.beq f g && Nat.beq i j then some h else headFind r g j
/-- The number of the first region of a piece of code. -/
def firstNo : Code → Nat
  | .region id _ _ => id
  | .seq a _ => firstNo a
  | .block _ c => firstNo c
  | .loop c => firstNo c
  | .scope c => firstNo c
  | .cond _ a _ => firstNo a
  | _ => 0
def regionTree (X : Cx) (inl : Inl) (f : FuncId) (id : Nat) (ops : Array Oper) (draw : Bool) (st : SS) (k : SS → Tree) : Tree :=
  if draw then (match planFind X.plans f id with
    | some (n, pl) => if planB .any ops n pl && Nat.ble n ops.toList.length then mixTree X inl ops (ops.toList.drop n) pl st st k else .bad 40
    | none => .bad 41)
  else listTree X inl ops ops.toList st k
def setCond (st : SS) (c : Operand) (b : Bool) : SS := match c with
  | .tmp t => st.put (some t) (litS b)
  | _ => st
def codeTree (X : Cx) (inl : Inl) (f : FuncId) : Code → SS → (Ex → SS → Tree) → Tree
  | .skip, st, k => k .normal st
  | .label _, st, k => k .normal st
  | .region id ops draw, st, k => regionTree X inl f id ops draw st fun st' => k .normal st'
  | .seq a b, st, k => codeTree X inl f a st fun e st' => match e with
    | .normal => codeTree X inl f b st' k
    | e => k e st'
  | .cond c a b, st, k => match ev X.gt st c with
    | .sc (.bool e) => match e with
      | .bool t => if t then codeTree X inl f a st k else codeTree X inl f b st k
      | e => .br e (codeTree X inl f a (setCond st c true) k) (codeTree X inl f b (setCond st c false) k)
    | _ => .bad 50
  | .block id c, st, k => codeTree X inl f c st fun e st' => match e with
    | .exit j => if Nat.beq j id then k .normal st' else k (.exit j) st'
    | e => k e st'
  | .loop c, st, k => match headFind X.heads f (firstNo c) with
    | none => .bad 51
    | some hd => match norm hd st with
      | none => .bad 52
      | some st1 => match gen hd st.nv st1 with
        | (fr, hp, σ) => if st1.lt && isInst st.nv σ fr hp st1 then
            .loop σ (codeTree X inl f c ⟨fr, hp, st.nv + σ.length, st.lvl + 1⟩ fun e st' => match e with
              | .normal => match match1 hd st.nv fr hp st' with
                | some σ' => if Nat.beq σ'.length σ.length then .back st.lvl σ' else .bad 54
                | none => .bad 55
              | e => k e st')
          else .bad 53
  | .exit id, st, k => k (.exit id) st
  | .ret, st, k => k .ret st
  | _, _, _ => .bad 59

section
variable {X : Cx} {Γ : CEnv} {inl : Inl} {R : TV → Prop} {B : Nat} {vss : List (Array Value)}

theorem regionTree_sound (hX : CxOk X Γ) (hinl : InlOk X Γ inl) {f : FuncId} {id : Nat} {ops : Array Oper} {draw : Bool} {k : SS → Tree} {ρ : List TV} {L : List (List TV → Prop)} {G : Nat → Prop} {st : SS} {as : List Value} {w : World} {a : Act} {Q : Exit → Act → World → Prop} (hnp : ∀ c a w, ¬ Q (.panic c) a w)
    (hl : st.lvl = L.length) (r : Rel Γ X.gt ρ B G st as (a.tmps :: vss) w) (h : (regionTree X inl f id ops draw st k).den Γ R ρ L)
    (hk : ∀ st' ρ' L' as' G' a' w', st'.lvl = L'.length → RExt ρ ρ' → LExt L L' → a'.defers = a.defers → Rel Γ X.gt ρ' B G' st' as' (a'.tmps :: vss) w' → Below B w w' → (k st').den Γ R ρ' L' → Q .normal a' w') : (Code.region id ops draw).wp X.P Q a w := by
  unfold regionTree at h
  split at h
  · rename_i hd
    subst hd
    split at h
    · rename_i n pl hpl
      split at h
      · rename_i hB
        simp only [Bool.and_eq_true, Nat.ble_eq] at hB
        have hm := mixTree_sound (tail := ops.toList.drop n) hX hinl hnp (w0 := w) r.base (pl := pl) hl r.drew r (Gr.refl w).drew h hk
        have hops : ops = ops.toList.toArray := by simp
        by_cases hn : n < ops.toList.length
        · have := wp_region_mix_tail (P := X.P) (id := id) (l := ops.toList) n pl hX.mixed (by rw [← hops]; exact hB.1) hn (by rw [← hops]; exact hm)
          rw [← hops] at this
          exact this
        · have hne : n = ops.toList.length := by omega
          rw [hne, List.drop_length] at hm
          have := wp_region_mix (P := X.P) (id := id) (l := ops.toList) pl hX.mixed (by rw [← hops, ← hne]; exact hB.1) (by rw [← hops]; exact hm)
          rw [← hops] at this
          exact this
      · exact h.elim
    · exact h.elim
  · rename_i hd
    have : draw = false := by simpa using hd
    subst this
    exact wp_region_list (listTree_sound hX hinl hl r h hk)

theorem setCond_rel {gt : GT} {ρ : List TV} {G : Nat → Prop} {st : SS} {as : List Value} {w : World} {a : Act} (r : Rel Γ X.gt ρ B G st as (a.tmps :: vss) w) {c : Operand} {e : E} (hc : ev X.gt st c = .sc (.bool e)) : Rel Γ X.gt ρ B G (setCond st c (e.den Γ ρ).asBool) as (a.tmps :: vss) w := by
  unfold setCond
  split
  · rename_i t
    unfold ev at hc
    dsimp only at hc
    cases ht : st.top[t]? with
    | none => rw [ht] at hc; cases hc
    | some s =>
      rw [ht] at hc
      simp only [Option.getD_some] at hc
      subst hc
      exact (r.refine1 ht).1
  · exact r
theorem setCond_lvl (st : SS) (c : Operand) (b : Bool) : (setCond st c b).lvl = st.lvl := by
  unfold setCond
  split
  · exact put_lvl _ _ _
  · rfl

/-- Rounds with what is open at their head. -/
theorem wp_loop_ghost {P : Program} {α : Type} {c : Code} {Q : Exit → Act → World → Prop} (I : α → Act → World → Prop) (m : α → Nat) {x : α} {a : Act} {w : World} (h₀ : I x a w)
    (round : ∀ x a w, I x a w → c.wp P (Exit.then (fun a' w' => ∃ y, I y a' w' ∧ m y < m x) Q) a w) : (Code.loop c).wp P Q a w := by
  intro b k cs
  have key : ∀ n x a w, m x = n → I x a w → ∃ e a' w', Q e a' w' ∧ Arrives P (lone (b.at a (.code c :: .inLoop c :: k)) cs w) b k cs e a' w' := by
    intro n
    induction n using Nat.strongRecOn with
    | _ n ih =>
      intro x a w hn hI
      obtain ⟨e, a₁, w₁, hq, harr⟩ := round x a w hI b (.inLoop c :: k) cs
      cases e with
      | normal =>
        obtain ⟨y, hI₁, hlt⟩ := hq
        obtain ⟨e₂, a₂, w₂, hq₂, harr₂⟩ := ih (m y) (hn ▸ hlt) y a₁ w₁ rfl hI₁
        exact ⟨e₂, a₂, w₂, hq₂, .of_steps (Steps.trans harr (.one step_inLoop)) harr₂⟩
      | exit id => exact ⟨_, a₁, w₁, hq, .pass (x := .inLoop c) rfl (fun _ _ => .inl (by simp)) harr⟩
      | goto l => exact ⟨_, a₁, w₁, hq, .pass (x := .inLoop c) rfl (fun _ _ => .inl (by simp)) harr⟩
      | ret => exact ⟨_, a₁, w₁, hq, .pass (x := .inLoop c) rfl (fun _ _ => .inl (by simp)) harr⟩
      | panic ch => exact ⟨_, a₁, w₁, hq, .pass (x := .inLoop c) rfl (fun _ _ => .inl (by simp)) harr⟩
      | outgrown => exact ⟨_, a₁, w₁, hq, .pass (x := .inLoop c) rfl (fun _ _ => .inl (by simp)) harr⟩
  obtain ⟨e, a', w', hq, harr⟩ := key _ x a w rfl h₀
  exact ⟨e, a', w', hq, .of_steps (.one step_loop) harr⟩

theorem codeTree_sound (hX : CxOk X Γ) (hinl : InlOk X Γ inl) {f : FuncId} : ∀ {c : Code} {k : Ex → SS → Tree} {ρ : List TV} {L : List (List TV → Prop)} {G : Nat → Prop} {st : SS} {as : List Value} {w : World} {a : Act} {Q : Exit → Act → World → Prop} (_ : ∀ c a w, ¬ Q (.panic c) a w),
    st.lvl = L.length → Rel Γ X.gt ρ B G st as (a.tmps :: vss) w → (codeTree X inl f c st k).den Γ R ρ L →
    (∀ e st' ρ' L' as' G' a' w', st'.lvl = L'.length → RExt ρ ρ' → LExt L L' → a'.defers = a.defers → Rel Γ X.gt ρ' B G' st' as' (a'.tmps :: vss) w' → Below B w w' → (k e st').den Γ R ρ' L' → Q e.to a' w') → c.wp X.P Q a w := by
  intro c
  induction c with
  | skip => intro k ρ L G st as w a Q hnp hl r h hk; exact wp_skip (hk .normal st ρ L as G a w hl (RExt.refl _) (LExt.refl _) rfl r (Below.refl _ _) h)
  | label l => intro k ρ L G st as w a Q hnp hl r h hk; exact wp_label (hk .normal st ρ L as G a w hl (RExt.refl _) (LExt.refl _) rfl r (Below.refl _ _) h)
  | exit id => intro k ρ L G st as w a Q hnp hl r h hk; exact wp_exit (hk (.exit id) st ρ L as G a w hl (RExt.refl _) (LExt.refl _) rfl r (Below.refl _ _) h)
  | ret => intro k ρ L G st as w a Q hnp hl r h hk; exact wp_ret (hk .ret st ρ L as G a w hl (RExt.refl _) (LExt.refl _) rfl r (Below.refl _ _) h)
  | region id ops draw =>
    intro k ρ L G st as w a Q hnp hl r h hk
    exact regionTree_sound hX hinl hnp hl r h fun st' ρ' L' as' G' a' w' h0 h1 h2 h3 h4 h5 h6 => hk .normal st' ρ' L' as' G' a' w' h0 h1 h2 h3 h4 h5 h6
  | seq x y ihx ihy =>
    intro k ρ L G st as w a Q hnp hl r h hk
    refine wp_seq (ihx (Q := Exit.then (y.wp X.P Q) Q) (fun c a w => hnp c a w) hl r h fun e st' ρ' L' as' G' a' w' h0 h1 h2 h3 h4 h5 h6 => ?_)
    cases e with
    | normal => exact ihy hnp h0 h4 h6 fun e st'' ρ'' L'' as'' G'' a'' w'' g0 g1 g2 g3 g4 g5 g6 => hk e st'' ρ'' L'' as'' G'' a'' w'' g0 (h1.trans g1) (h2.trans g2) (g3.trans h3) g4 (h5.trans g5) g6
    | exit id => exact hk (.exit id) st' ρ' L' as' G' a' w' h0 h1 h2 h3 h4 h5 h6
    | ret => exact hk .ret st' ρ' L' as' G' a' w' h0 h1 h2 h3 h4 h5 h6
  | cond c x y ihx ihy =>
    intro k ρ L G st as w a Q hnp hl r h hk
    simp only [codeTree] at h
    split at h
    · rename_i e hc
      split at h
      · rename_i t
        have hv := ev_rep r c
        rw [hc] at hv
        have hv2 : a.eval c = .bool t := hv
        refine wp_cond hv2 ?_
        split at h
        · rename_i ht
          rw [if_pos ht]
          exact ihx hnp hl r h hk
        · rename_i ht
          rw [if_neg ht]
          exact ihy hnp hl r h hk
      · have hv := ev_rep r c
        rw [hc] at hv
        have hv : a.eval c = .bool (e.den Γ ρ).asBool := hv
        have r2 := setCond_rel (gt := X.gt) r hc
        obtain ⟨h1, h2⟩ := h
        refine wp_cond hv ?_
        cases ht : (e.den Γ ρ).asBool
        · rw [ht] at r2
          exact ihy hnp (by rw [setCond_lvl]; exact hl) r2 (h2 ht) hk
        · rw [ht] at r2
          exact ihx hnp (by rw [setCond_lvl]; exact hl) r2 (h1 ht) hk
    · exact h.elim
  | block id c ih =>
    intro k ρ L G st as w a Q hnp hl r h hk
    refine wp_block (ih (Q := Exit.inBlock id Q) (fun c a w => hnp c a w) hl r h fun e st' ρ' L' as' G' a' w' h0 h1 h2 h3 h4 h5 h6 => ?_)
    cases e with
    | normal => exact hk .normal st' ρ' L' as' G' a' w' h0 h1 h2 h3 h4 h5 h6
    | ret => exact hk .ret st' ρ' L' as' G' a' w' h0 h1 h2 h3 h4 h5 h6
    | exit j =>
      dsimp only at h6
      show Exit.inBlock id Q (.exit j) a' w'
      unfold Exit.inBlock
      dsimp only
      split at h6
      · rename_i e
        rw [if_pos (Nat.eq_of_beq_eq_true e)]
        exact hk .normal st' ρ' L' as' G' a' w' h0 h1 h2 h3 h4 h5 h6
      · rename_i e
        rw [if_neg (fun h => e (by rw [h]; exact Nat.beq_refl id))]
        exact hk (.exit j) st' ρ' L' as' G' a' w' h0 h1 h2 h3 h4 h5 h6
  | loop c ih =>
    intro k ρ L G st as w a Q hnp hl r h hk
    simp only [codeTree] at h
    split at h
    · exact h.elim
    · rename_i hd hhd
      split at h
      · exact h.elim
      · rename_i st1 hst1
        generalize hgen : gen hd st.nv st1 = gg at h
        obtain ⟨fr, hp, σ⟩ := gg
        dsimp only at h
        split at h
        · rename_i hi
          simp only [Bool.and_eq_true] at hi
          obtain ⟨I, m, h0, hround⟩ := h
          have hm : match1 hd st.nv fr hp st = some σ := by
            unfold match1
            rw [hst1]
            dsimp only
            rw [hgen]
            dsimp only
            rw [if_pos hi.2]
          have hn : ρ.length = st.nv := r.nv.symm
          obtain ⟨as1, r1⟩ := match1_rel (ρ := ρ) hm r hn (fun i _ => rfl) (st.lvl + 1)
          refine wp_loop_ghost (fun (xs : List TV) a' w' => xs.length = σ.length ∧ I xs ∧ a'.defers = a.defers ∧ Below B w w' ∧ ∃ as' G', Rel Γ X.gt (ρ ++ xs) B G' ⟨fr, hp, st.nv + σ.length, st.lvl + 1⟩ as' (a'.tmps :: vss) w') m (x := σ.map (·.den Γ ρ)) ⟨by simp, h0, rfl, Below.refl _ _, as1, G, r1⟩ ?_
          intro xs a' w' ⟨hxl, hIx, hdf, hbl, as', G', r'⟩
          have hbody := hround xs hxl hIx
          refine ih (Q := Exit.then (fun a' w' => ∃ y, (y.length = σ.length ∧ I y ∧ a'.defers = a.defers ∧ Below B w w' ∧ ∃ as' G', Rel Γ X.gt (ρ ++ y) B G' ⟨fr, hp, st.nv + σ.length, st.lvl + 1⟩ as' (a'.tmps :: vss) w') ∧ m y < m xs) Q) (fun c a w => hnp c a w) (by simp [hl]) r' hbody ?_
          intro e st' ρ' L' as'' G'' a'' w'' g0 g1 g2 g3 g4 g5 g6
          have hR : RExt ρ ρ' := RExt.trans ⟨xs, rfl⟩ g1
          have hLx : LExt L (L ++ [fun ys => I ys ∧ m ys < m xs]) := fun i p hp => by rw [List.getElem?_append_left (List.getElem?_eq_some_iff.1 hp).1]; exact hp
          cases e with
          | exit id => exact hk (.exit id) st' ρ' L' as'' G'' a'' w'' g0 hR (hLx.trans g2) (g3.trans hdf) g4 (hbl.trans g5) g6
          | ret => exact hk .ret st' ρ' L' as'' G'' a'' w'' g0 hR (hLx.trans g2) (g3.trans hdf) g4 (hbl.trans g5) g6
          | normal =>
            dsimp only at g6
            split at g6
            · rename_i σ' hm'
              split at g6
              · rename_i hlen
                obtain ⟨p, hp1, hp2⟩ := g6
                have hpL := g2 st.lvl (fun ys => I ys ∧ m ys < m xs) (by rw [hl, List.getElem?_append_right (Nat.le_refl _)]; simp)
                rw [hp1] at hpL
                injection hpL with hpL
                subst hpL
                have hle := Nat.eq_of_beq_eq_true hlen
                obtain ⟨ys, hys⟩ := hR
                obtain ⟨as3, r3⟩ := match1_rel (ρ := ρ) hm' g4 hn (fun i hi => by rw [hys]; exact getD_app _ _ _ _ (by omega)) (st.lvl + 1)
                rw [hle] at r3
                exact ⟨σ'.map (·.den Γ ρ'), ⟨by simp [hle], hp2.1, g3.trans hdf, hbl.trans g5, as3, G'', r3⟩, hp2.2⟩
              · exact g6.elim
            · exact g6.elim
        · exact h.elim
  | scope c ih => intro k ρ L G st as w a Q hnp hl r h hk; exact h.elim
  | goto l => intro k ρ L G st as w a Q hnp hl r h hk; exact h.elim
  | refuse s => intro k ρ L G st as w a Q hnp hl r h hk; exact h.elim
  | rangeFunc f ps x y ihx ihy => intro k ρ L G st as w a Q hnp hl r h hk; exact h.elim
end
end Go.Proofs.YtccpepheooleoaaDoor
