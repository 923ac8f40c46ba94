/- Symbolic runs, part t: regions that draw their order. -/
import Derived.Test.YtccpepheooleoaaDoorSs
namespace Go.Proofs.YtccpepheooleoaaDoor
set_option linter.unusedSimpArgs false
set_option linter.unusedVariables false
set_option linter.unusedSectionVars false
open Go.RowKit

def quietTree (X : Cx) (stV st : SS) (o : Oper) (k : SS → SS → Tree) : Tree := match o.op with
  | .call ⟨.value f, args, _⟩ => match ev X.gt st f with
    | .sc (.fn g []) => match sigFind X.sigs g with
      | some s => if st.lt && stV.lt then (match argsE st.heap s.args (args.toList.map (ev X.gt st)) with
          | some es => .call s.no es (k { stV with nv := stV.nv + 1 } ((resState st s).1.put o.dst (resState st s).2))
          | none => .bad 33) else .bad 34
      | none => .bad 35
    | _ => .bad 31
  | op => match sop X.P X.gt st op with
    | some out => if out.wr then .bad 36 else reqs out.req (k stV (({ st with heap := out.heap } : SS).put o.dst out.val))
    | none => .bad 32
def mixTree (X : Cx) (inl : Inl) (ops : Array Oper) (tail : List Oper) : List (Bool × Nat) → SS → SS → (SS → Tree) → Tree
  | [], _, st, k => listTree X inl ops tail st k
  | (v, i) :: rest, stV, st, k => match ops[i]? with
    | none => .bad 30
    | some o => guardTree ops o st fun b rf =>
      let st := refine1 st rf
      let stV := refine1 stV rf
      if b then
        if v then (match sopR X.P X.gt stV o.op, sopR X.P X.gt st o.op with
          | some (r1, v1), some (r2, v2) => if isV X.gt stV o.op then
              let rest' := mixTree X inl ops tail rest (stV.put o.dst v1) (st.put o.dst v2) k
              reqs r2 (if listEq E.beq r1 r2 then rest' else reqs r1 rest')
            else .bad 37
          | _, _ => .bad 38)
        else quietTree X stV st o fun stV' st' => mixTree X inl ops tail rest (stV'.put o.dst (.sc .undef)) st' k
      else mixTree X inl ops tail rest (stV.put o.dst undefS) (st.put o.dst undefS) k

section
variable {X : Cx} {Γ : CEnv} {inl : Inl} {R : TV → Prop} {B : Nat} {vss : List (Array Value)}

theorem Rel.known {gt : GT} {ρ : List TV} {G : Nat → Prop} {st : SS} {as : List Value} {w : World} {a : Act} (r : Rel Γ gt ρ B G st as (a.tmps :: vss) w) {rf : Option (Nat × Bool)} (h : ∀ d c, rf = some (d, c) → a.tmps[d]? = some (.bool c)) : Rel Γ gt ρ B G (Proofs.YtccpepheooleoaaDoor.refine1 st rf) as (a.tmps :: vss) w := by
  cases rf with
  | none => exact r
  | some x =>
    obtain ⟨d, c⟩ := x
    have hv := h d c rfl
    have hput := r.put (some d) (s := litS c) (v := .bool c) rfl
    have : (a.put (some d) (.bool c)).tmps = a.tmps := by
      unfold Act.put
      dsimp only
      apply Array.ext_getElem?
      intro i
      rw [Array.getElem?_setIfInBounds]
      split
      · rename_i e1; subst e1
        split
        · exact hv.symm
        · rename_i hh; rw [Array.getElem?_eq_none (by omega)]
      · rfl
    rw [this] at hput
    exact hput
theorem Rel.undef {gt : GT} {ρ : List TV} {G : Nat → Prop} {st : SS} {as : List Value} {w : World} {a : Act} (r : Rel Γ gt ρ B G st as (a.tmps :: vss) w) (d : Option Tmp) (v : Value) : Rel Γ gt ρ B G (st.put d (.sc .undef)) as ((a.put d v).tmps :: vss) w := r.put d trivial

theorem quiet_sound (hX : CxOk X Γ) {o : Oper} {a : Act} {k : SS → SS → Tree} {ρ : List TV} {L : List (List TV → Prop)} {G G0 : Nat → Prop} {st stV : SS} {as as0 : List Value} {w w0 : World} (hl : st.lvl = L.length) (r : Rel Γ X.gt ρ B G st as (a.tmps :: vss) w) (rV : Rel Γ X.gt ρ B G0 stV as0 (a.tmps :: vss) w0)
    (h : (quietTree X stV st o k).den Γ R ρ L) {K : Act → World → Prop} {Q : Exit → Act → World → Prop}
    (hk : ∀ stV' st' ρ' as' G' v w', st'.lvl = L.length → RExt ρ ρ' → Rel Γ X.gt ρ' B G0 stV' as0 (a.tmps :: vss) w0 → Rel Γ X.gt ρ' B G' st' as' ((a.put o.dst v).tmps :: vss) w' → Below w.heap.size w w' → (k stV' st').den Γ R ρ' L → K (a.put o.dst v) w') : o.wp X.P a w K Q := by
  unfold quietTree at h
  split at h
  · rename_i f args ts ho
    split at h
    · rename_i g hf
      have hfv := ev_rep r f
      rw [hf] at hfv
      obtain ⟨cvs, hfv, hcaps⟩ := hfv
      split at h
      · rename_i s hs
        obtain ⟨hmem, rfl⟩ := sigFind_mem hs
        split at h
        · rename_i hlt
          simp only [Bool.and_eq_true] at hlt
          split at h
          · rename_i es hes
            have hcv : cvs = [] := List.eq_nil_of_length_eq_zero hcaps.1.symm
            subst hcv
            have hc := hX.sigs s hmem
            obtain ⟨hpre, hpost⟩ := h
            have hargs := argsE_sound r hes (evs_rep r args.toList)
            have hrun := run_call ho hfv hc.enters w
            unfold Oper.wp
            rw [hrun, Oper.upon_enter]
            have e1 : args.map a.eval ++ (#[] : Array Value) = args.map a.eval := by simp
            rw [show (List.toArray ([] : List Value)) = #[] from rfl, e1]
            refine (hc.calls w _ (args.map a.eval) (globOk r) (by rw [Array.toList_map]; exact hargs) hpre).mono fun e w' hh => ?_
            obtain ⟨tv, v, G', rfl, q1, q2, q3, q4⟩ := hh
            obtain ⟨as', G'', k1, k2⟩ := sig_step r hlt.1 q2 q3 q4
            exact hk _ _ _ _ _ v w' (by rw [put_lvl, resState_lvl]; exact hl) ⟨[tv], rfl⟩ (rV.app hlt.2 [tv]) (k1.put o.dst k2) q2 (hpost tv q1)
          · exact h.elim
        · exact h.elim
      · exact h.elim
    · exact h.elim
  · split at h
    · rename_i out hs
      split at h
      · exact h.elim
      · rename_i hwr
        obtain ⟨hq, h⟩ := reqs_den h
        obtain ⟨n, v, as', G', w', h1, h2, h3, h4, h5, h6⟩ := sop_sound r hs hq
        have hfin := hk _ _ ρ as' G' v w' (by rw [put_lvl]; exact hl) (RExt.refl ρ) rV (h3.put o.dst h4) (h6 (by simpa using hwr)) h
        unfold Oper.wp
        rw [h1]
        rcases h2 with rfl | ⟨rfl, rfl⟩
        · exact hfin
        · exact hfin
    · exact h.elim

theorem mixTree_sound (hX : CxOk X Γ) (hinl : InlOk X Γ inl) {ops : Array Oper} {tail : List Oper} {Q : Exit → Act → World → Prop} (hnp : ∀ c a w, ¬ Q (.panic c) a w) {w0 : World} (hB : B ≤ w0.heap.size) : ∀ {pl : List (Bool × Nat)} {k : SS → Tree} {ρ : List TV} {L : List (List TV → Prop)} {G G0 : Nat → Prop} {st stV : SS} {as as0 : List Value} {w : World} {a : Act},
    st.lvl = L.length → Rel Γ X.gt ρ B G st as (a.tmps :: vss) w → Rel Γ X.gt ρ B G0 stV as0 (a.tmps :: vss) w0 → Gr w0 w → (mixTree X inl ops tail pl stV st k).den Γ R ρ L →
    (∀ st' ρ' L' as' G' a' w', st'.lvl = L'.length → RExt ρ ρ' → LExt L L' → a'.defers = a.defers → Rel Γ X.gt ρ' B G' st' as' (a'.tmps :: vss) w' → Below B w0 w' → (k st').den Γ R ρ' L' → Q .normal a' w') → wpMix X.P ops w0 Q (wpList X.P ops Q tail) pl a w
  | [], k, ρ, L, G, G0, st, stV, as, as0, w, a, hl, r, rV, hg, h, hk =>
    listTree_sound hX hinl hl r h fun st' ρ' L' as' G' a' w' h0 h1 h2 h3 h4 h5 h6 => hk st' ρ' L' as' G' a' w' h0 h1 h2 h3 h4 ((hg.below.mono hB).trans h5) h6
  | (v, i) :: rest, k, ρ, L, G, G0, st, stV, as, as0, w, a, hl, r, rV, hg, h, hk => by
    unfold mixTree at h
    split at h
    · exact h.elim
    · rename_i o ho
      obtain ⟨b, rf, hw, h, r, hkn⟩ := guard_sound r h
      have hl := (refine1_lvl st rf).trans hl
      have rV := rV.known hkn
      have next : ∀ (u : Value) {ρ' : List TV} {G' : Nat → Prop} {st' stV' : SS} {as' : List Value} {w' : World}, st'.lvl = L.length → RExt ρ ρ' → Rel Γ X.gt ρ' B G' st' as' ((a.put o.dst u).tmps :: vss) w' → Rel Γ X.gt ρ' B G0 stV' as0 ((a.put o.dst u).tmps :: vss) w0 → Gr w0 w' →
          (mixTree X inl ops tail rest stV' st' k).den Γ R ρ' L → wpMix X.P ops w0 Q (wpList X.P ops Q tail) rest (a.put o.dst u) w' := by
        intro u ρ' G' st' stV' as' w' h0 h1 h2 h3 h4 h5
        exact mixTree_sound hX hinl hnp hB h0 h2 h3 h4 h5 fun st'' ρ'' L'' as'' G'' a'' w'' g0 g1 g2 g3 g4 g5 g6 => hk st'' ρ'' L'' as'' G'' a'' w'' g0 (h1.trans g1) g2 (g3.trans (put_defers _ _ _)) g4 g5 g6
      cases b with
      | false =>
        rw [if_neg (by simp)] at h
        have hn := next undef (by rw [put_lvl]; exact hl) (RExt.refl _) (r.put o.dst (s := undefS) (v := undef) rfl) (rV.put o.dst (s := undefS) (v := undef) rfl) hg h
        cases v with
        | true => exact ⟨o, undef, ho, fun c a w hq => absurd hq (hnp _ _ _), .inr ⟨hw, rfl⟩, hn⟩
        | false =>
          unfold wpMix wpOp
          simp only [ho, hw]
          rw [if_neg (by simp)]
          exact ⟨hg, hn⟩
      | true =>
        rw [if_pos rfl] at h
        cases v with
        | true =>
          rw [if_pos rfl] at h
          split at h
          · rename_i r1 v1 r2 v2 e1 e2
            split at h
            · rename_i hV
              obtain ⟨hq2, h⟩ := reqs_den h
              have hq1 : Holds Γ ρ r1 ∧ (mixTree X inl ops tail rest ((refine1 stV rf).put o.dst v1) ((refine1 st rf).put o.dst v2) k).den Γ R ρ L := by
                split at h
                · rename_i heq
                  rw [listEq_eq (fun _ _ h => E.beq_eq h) heq]
                  exact ⟨hq2, h⟩
                · exact reqs_den h
              obtain ⟨u, _, k1, k2⟩ := sopR_sound rV e1 hq1.1
              obtain ⟨u2, k3, _, k4⟩ := sopR_sound r e2 hq2
              have hu : u2 = u := by
                have := k1 hV w hg.below
                rw [k3] at this
                injection this with e _
                injection e
              subst hu
              refine ⟨o, u2, ho, fun c a w hq => absurd hq (hnp _ _ _), .inl ⟨hw, fun w2 hw2 => .inl (k1 hV w2 hw2.below)⟩, ?_⟩
              exact next u2 (by rw [put_lvl]; exact hl) (RExt.refl _) (r.put o.dst k4) (rV.put o.dst k2) hg hq1.2
            · exact h.elim
          · exact h.elim
        | false =>
          rw [if_neg (by simp)] at h
          unfold wpMix wpOp
          simp only [ho, hw, if_true]
          refine .inl (quiet_sound hX hl r rV h fun stV' st' ρ' as' G' u w' h0 h1 h2 h3 h4 h5 => ?_)
          have hg' : Gr w0 w' := Gr.trans hg (Gr.of_below h4)
          exact ⟨hg', next u h0 h1 h3 (h2.undef o.dst u) hg' h5⟩
end
end Go.Proofs.YtccpepheooleoaaDoor
