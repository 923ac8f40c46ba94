/- Symbolic runs, part s: operations one behind the other, with their guards and calls. -/
import Derived.Test.YtccpepheooleoaaDoorSr
namespace Go.Proofs.YtccpepheooleoaaDoor
set_option linter.unusedSimpArgs false
set_option linter.unusedVariables false
set_option linter.unusedSectionVars false
open Go.RowKit

structure Cx where
  P : Program
  gt : GT
  sigs : List Sig
  fns : List (FuncId × Func)
  heads : List (FuncId × Nat × Head)
  plans : List (FuncId × Nat × Nat × List (Bool × Nat))
abbrev Inl := FuncId → SS → (SS → SV → Tree) → Tree

def sigFind : List Sig → FuncId → Option Sig
  | [], _ => none
  | s :: r, f => if Nat.beq s.f f then some s else sigFind r f
theorem sigFind_mem : ∀ {l : List Sig} {f : FuncId} {s : Sig}, sigFind l f = some s → s ∈ l ∧ s.f = f
  | [], f, s, h => by simp [sigFind] at h
  | x :: r, f, s, h => by
    simp only [sigFind] at h
    split at h
    · rename_i e
      simp only [Option.some.injEq] at h
      subst h
      exact ⟨List.mem_cons_self, Nat.eq_of_beq_eq_true e⟩
    · obtain ⟨h1, h2⟩ := sigFind_mem h
      exact ⟨List.mem_cons_of_mem _ h1, h2⟩

def undefS : SV := .sc (.lit (.tuple #[]))
def capSV (x : Nat × Nat) : SV := .sc (.ptr x.1 x.2 (.int 0) 0)
def opTree (X : Cx) (inl : Inl) (st : SS) (o : Oper) (k : SS → Tree) : Tree := match o.op with
  | .call ⟨.value f, args, _⟩ => match ev X.gt st f with
    | .sc (.fn g caps) => match sigFind X.sigs g with
      | some s => match caps with
        | [] => if st.lt then (match argsE st.heap s.args (args.toList.map (ev X.gt st)) with
          | some es => .call s.no es (k ((resState st s).1.put o.dst (resState st s).2))
          | none => .bad 3) else .bad 4
        | _ => .bad 5
      | none => inl g { st with frames := (args.toList.map (ev X.gt st) ++ caps.map capSV) :: st.frames } fun st' v => k (st'.put o.dst v)
    | _ => .bad 1
  | op => match sop X.P X.gt st op with
    | some out => reqs out.req (k (({ st with heap := out.heap } : SS).put o.dst out.val))
    | none => .bad 2
def litS (b : Bool) : SV := .sc (.bool (.bool b))
def guardTree (ops : Array Oper) (o : Oper) (st : SS) (k : Bool → Option (Nat × Bool) → Tree) : Tree := match o.guard with
  | none => k true none
  | some (j, want) => match (ops[j]?).bind (·.dst) with
    | none => k false none
    | some d => match st.top[d]? with
      | some (.sc (.bool e)) => match e with
        | .bool b => k (b == want) none
        | e => .br e (k (true == want) (some (d, true))) (k (false == want) (some (d, false)))
      | some (.sc (.lit (.tuple _))) => k false none
      | _ => .bad 6
def refine1 (st : SS) : Option (Nat × Bool) → SS
  | none => st
  | some (d, b) => st.put (some d) (litS b)
def listTree (X : Cx) (inl : Inl) (ops : Array Oper) : List Oper → SS → (SS → Tree) → Tree
  | [], st, k => k st
  | o :: rest, st, k => guardTree ops o st fun b rf =>
    let st := refine1 st rf
    if b then opTree X inl st o fun st' => listTree X inl ops rest st' k else listTree X inl ops rest (st.put o.dst undefS) k

/-! ### What is known of a context -/
structure CxOk (X : Cx) (Γ : CEnv) : Prop where
  mixed : X.P.follows .mixedOrders = true
  sigs : ∀ s ∈ X.sigs, Contract X.P Γ X.gt s (Γ.pre s.no) (Γ.post s.no)
  fns : ∀ x ∈ X.fns, X.P.funcs[x.1]? = some x.2 ∧ (x.2.name == "runtime.NumGoroutine") = false

def LExt (L L' : List (List TV → Prop)) : Prop := ∀ (i : Nat) p, L[i]? = some p → L'[i]? = some p
theorem LExt.refl (L : List (List TV → Prop)) : LExt L L := fun _ _ h => h
theorem LExt.trans {A B C : List (List TV → Prop)} (h : LExt A B) (k : LExt B C) : LExt A C := fun i p x => k i p (h i p x)
def RExt (ρ ρ' : List TV) : Prop := ∃ xs, ρ' = ρ ++ xs
theorem RExt.refl (ρ : List TV) : RExt ρ ρ := ⟨[], by simp⟩
theorem RExt.trans {a b c : List TV} (h : RExt a b) (k : RExt b c) : RExt a c := by
  obtain ⟨x, rfl⟩ := h
  obtain ⟨y, rfl⟩ := k
  exact ⟨x ++ y, by simp⟩

/-- What a handler of calls that are gone into must do. -/
def InlOk (X : Cx) (Γ : CEnv) (inl : Inl) : Prop := ∀ (R : TV → Prop) (f : FuncId) (st : SS) (args : List SV) (fs : List (List SV)) (k : SS → SV → Tree) (ρ : List TV) (L : List (List TV → Prop)) (B : Nat) (G : Nat → Prop) (as : List Value) (vals : Array Value) (vss : List (Array Value)) (w : World) (K : Value → World → Prop),
  st.lvl = L.length → st.frames = args :: fs → Rel Γ X.gt ρ B G st as (vals :: vss) w → (inl f st k).den Γ R ρ L →
  (∀ st' sv ρ' L' as' G' v w', st'.lvl = L'.length → RExt ρ ρ' → LExt L L' → Rel Γ X.gt ρ' B G' st' as' vss w' → RepV Γ ρ' st'.heap as' (stable w' G') (fresh w' G' B) sv v → Below B w w' → (k st' sv).den Γ R ρ' L' → K v w') →
  Enters X.P f ∧ Calls X.P f vals w fun e w' => ∃ v, e = .returned v ∧ K v w'

section
variable {X : Cx} {Γ : CEnv} {inl : Inl} {R : TV → Prop} {ρ : List TV} {L : List (List TV → Prop)} {B : Nat} {G : Nat → Prop} {st : SS} {as : List Value} {vss : List (Array Value)} {w : World}

theorem put_lvl (st : SS) (d : Option Tmp) (v : SV) : (st.put d v).lvl = st.lvl := by
  unfold SS.put
  split <;> rfl
theorem refine1_lvl (st : SS) (rf : Option (Nat × Bool)) : (refine1 st rf).lvl = st.lvl := by
  cases rf with
  | none => rfl
  | some x => exact put_lvl _ _ _
theorem resState_lvl (st : SS) (s : Sig) : (resState st s).1.lvl = st.lvl := by
  unfold resState
  split
  rfl
theorem evs_rep {a : Act} (r : Rel Γ X.gt ρ B G st as (a.tmps :: vss) w) (xs : List Operand) : All2 (RepV Γ ρ st.heap as (stable w G) (fresh w G B)) (xs.map (ev X.gt st)) (xs.map a.eval) :=
  ⟨by simp, fun i x y hx hy => by
    rw [List.getElem?_map] at hx hy
    cases hq : xs[i]? with
    | none => rw [hq] at hx; cases hx
    | some z =>
      rw [hq] at hx hy
      simp only [Option.map_some, Option.some.injEq] at hx hy
      rw [← hx, ← hy]
      exact ev_rep r z⟩
theorem caps_rep {hp : List Blk} {M Mf : Mem} {caps : List (Nat × Nat)} {vs : List Value} (h : All2 (fun (x : Nat × Nat) u => u.oneCell' = true ∧ RepPtr Γ ρ hp as x.1 x.2 0 0 u) caps vs) : All2 (RepV Γ ρ hp as M Mf) (caps.map capSV) vs := by
  exact All2.mapl h fun x y hxy => hxy

theorem globOk (r : Rel Γ X.gt ρ B G st as vss w) : GlobOk Γ X.gt w := fun g ag cs h => ⟨(r.globs g ag cs h).1.mono (stable_full w G), (r.globs g ag cs h).2⟩

theorem run_call {o : Oper} {a : Act} {P : Program} {f : Operand} {args : Array Operand} {ts : Array TypeId} (ho : o.op = .call ⟨.value f, args, ts⟩) {g : FuncId} {caps : Array Value} (hf : a.eval f = .func (.func g) #[] caps) (he : Enters P g) (w : World) :
    (execOp a.eval o).run P w = .ok (.enter g (args.map a.eval ++ caps)) w := by
  unfold execOp
  rw [ho]
  simp only [resolve, hf, Deferred.ofValue, invoke, Sem.run_bind, Sem.run_pure, Result.andThen_ok, he.run]
  simp

/-- One operation. -/
theorem opTree_sound (hX : CxOk X Γ) (hinl : InlOk X Γ inl) {o : Oper} {a : Act} {k : SS → Tree} (hl : st.lvl = L.length) (r : Rel Γ X.gt ρ B G st as (a.tmps :: vss) w) (h : (opTree X inl st o k).den Γ R ρ L) {K : Act → World → Prop} {Q : Exit → Act → World → Prop}
    (hk : ∀ st' ρ' L' as' G' v w', st'.lvl = L'.length → RExt ρ ρ' → LExt L L' → Rel Γ X.gt ρ' B G' st' as' ((a.put o.dst v).tmps :: vss) w' → Below B w w' → (k st').den Γ R ρ' L' → K (a.put o.dst v) w') : o.wp X.P a w K Q := by
  unfold opTree at h
  split at h
  · rename_i f args ts ho
    split at h
    · rename_i g caps hf
      have hfv := ev_rep r f
      rw [hf] at hfv
      obtain ⟨cvs, hfv, hcaps⟩ := hfv
      split at h
      · rename_i s hs
        obtain ⟨hmem, rfl⟩ := sigFind_mem hs
        split at h
        · split at h
          · rename_i hlt
            split at h
            · rename_i es hes
              have hcv : cvs = [] := List.eq_nil_of_length_eq_zero hcaps.1.symm
              subst hcv
              have hc := hX.sigs s hmem
              obtain ⟨hpre, hpost⟩ := h
              have hargs := argsE_sound r hes (evs_rep r args.toList)
              have hrun := run_call ho hfv hc.enters w
              unfold Oper.wp
              rw [hrun, Oper.upon_enter]
              have e1 : args.map a.eval ++ (#[] : Array Value) = args.map a.eval := by simp
              rw [show (List.toArray ([] : List Value)) = #[] from rfl, e1]
              refine (hc.calls w _ (args.map a.eval) (globOk r) (by rw [Array.toList_map]; exact hargs) hpre).mono fun e w' hh => ?_
              obtain ⟨tv, v, G', rfl, q1, q2, q3, q4⟩ := hh
              obtain ⟨as', G'', k1, k2⟩ := sig_step r hlt q2 q3 q4
              exact hk _ _ L _ _ v w' (by rw [put_lvl, resState_lvl]; exact hl) ⟨[tv], rfl⟩ (LExt.refl L) (k1.put o.dst k2) (q2.mono r.base) (hpost tv q1)
            · exact h.elim
          · exact h.elim
        · exact h.elim
      · have hall := (evs_rep r args.toList).append (caps_rep (M := stable w G) (Mf := fresh w G B) hcaps)
        have r2 : Rel Γ X.gt ρ B G { st with frames := (args.toList.map (ev X.gt st) ++ caps.map capSV) :: st.frames } as ((args.map a.eval ++ cvs.toArray) :: a.tmps :: vss) w := by
          refine ⟨r.nv, All2.cons ?_ r.frames, r.alen, r.blks, r.own, r.dist, r.base, r.gs, r.globs⟩
          rw [Array.toList_append, Array.toList_map]
          exact hall
        obtain ⟨he, hc⟩ := hinl R g { st with frames := (args.toList.map (ev X.gt st) ++ caps.map capSV) :: st.frames } _ _ _ ρ L B G as _ _ w (fun v w' => K (a.put o.dst v) w') hl rfl r2 h fun st' sv ρ' L' as' G' v w' h0 h1 h2 h3 h4 h5 h6 => hk _ _ _ _ _ v w' (by rw [put_lvl]; exact h0) h1 h2 (h3.put o.dst h4) h5 h6
        have hrun := run_call ho hfv he w
        unfold Oper.wp
        rw [hrun, Oper.upon_enter]
        refine hc.mono fun e w' hh => ?_
        obtain ⟨v, rfl, hv⟩ := hh
        exact hv
    · exact h.elim
  · split at h
    · rename_i out hs
      obtain ⟨hq, h⟩ := reqs_den h
      obtain ⟨n, v, as', G', w', h1, h2, h3, h4, h5, _⟩ := sop_sound r hs hq
      have hfin := hk _ ρ L as' G' v w' (by rw [put_lvl]; exact hl) (RExt.refl ρ) (LExt.refl L) (h3.put o.dst h4) h5 h
      unfold Oper.wp
      rw [h1]
      rcases h2 with rfl | ⟨rfl, rfl⟩
      · exact hfin
      · exact hfin
    · exact h.elim

/-- A guard, decided. -/
theorem Rel.refine1 {a : Act} (r : Rel Γ X.gt ρ B G st as (a.tmps :: vss) w) {d : Nat} {e : E} (hd : st.top[d]? = some (.sc (.bool e))) : Rel Γ X.gt ρ B G (st.put (some d) (litS (e.den Γ ρ).asBool)) as (a.tmps :: vss) w ∧ a.tmps[d]? = some (.bool (e.den Γ ρ).asBool) := by
  have hf := r.frames
  unfold SS.top at hd
  cases hfr : st.frames with
  | nil => rw [hfr] at hd; simp at hd
  | cons f fs =>
    rw [hfr] at hf hd
    dsimp only at hd
    have h0 := hf.2 0 f a.tmps rfl rfl
    obtain ⟨v, hv, hr⟩ := h0.get hd
    have hr : v = .bool (e.den Γ ρ).asBool := hr
    have hv' : a.tmps[d]? = some v := by simpa using hv
    rw [hr] at hv'
    refine ⟨?_, hv'⟩
    have hput := r.put (some d) (s := litS (e.den Γ ρ).asBool) (v := .bool (e.den Γ ρ).asBool) rfl
    have : (a.put (some d) (.bool (e.den Γ ρ).asBool)).tmps = a.tmps := by
      unfold Act.put
      dsimp only
      apply Array.ext_getElem?
      intro i
      rw [Array.getElem?_setIfInBounds]
      split
      · rename_i e1; subst e1
        split
        · exact hv'.symm
        · rename_i hh; rw [Array.getElem?_eq_none (by omega)]
      · rfl
    rw [this] at hput
    exact hput
theorem guard_sound {ops : Array Oper} {o : Oper} {a : Act} {k : Bool → Option (Nat × Bool) → Tree} (r : Rel Γ X.gt ρ B G st as (a.tmps :: vss) w) (h : (guardTree ops o st k).den Γ R ρ L) :
    ∃ b rf, Region.wanted o (yielded ops a.tmps) = b ∧ (k b rf).den Γ R ρ L ∧ Rel Γ X.gt ρ B G (Proofs.YtccpepheooleoaaDoor.refine1 st rf) as (a.tmps :: vss) w ∧ ∀ d c, rf = some (d, c) → a.tmps[d]? = some (.bool c) := by
  unfold guardTree at h
  split at h
  · rename_i hg
    exact ⟨true, none, by simp [Region.wanted, hg], h, r, fun _ _ h => by cases h⟩
  · rename_i j want hg
    have hw : Region.wanted o (yielded ops a.tmps) = (yielded ops a.tmps j == some want) := by simp [Region.wanted, hg]
    split at h
    · rename_i hd
      exact ⟨false, none, by rw [hw]; simp [yielded, hd], h, r, fun _ _ h => by cases h⟩
    · rename_i d hd
      have hy : ∀ b : Bool, a.tmps[d]? = some (.bool b) → (yielded ops a.tmps j == some want) = (b == want) := by
        intro b hb
        simp [yielded, hd, hb]
      split at h
      · rename_i e ht
        obtain ⟨r2, hv⟩ := r.refine1 ht
        split at h
        · rename_i b
          exact ⟨_, none, by rw [hw]; exact hy _ hv, h, r, fun _ _ h => by cases h⟩
        · obtain ⟨h1, h2⟩ := h
          cases hb : (e.den Γ ρ).asBool
          · rw [hb] at hv r2
            exact ⟨_, some (d, false), by rw [hw]; exact hy _ hv, h2 hb, r2, fun d' c h => by injection h with h; injection h with e1 e2; subst e1 e2; exact hv⟩
          · rw [hb] at hv r2
            exact ⟨_, some (d, true), by rw [hw]; exact hy _ hv, h1 hb, r2, fun d' c h => by injection h with h; injection h with e1 e2; subst e1 e2; exact hv⟩
      · rename_i u ht
        refine ⟨false, none, ?_, h, r, fun _ _ h => by cases h⟩
        have hf := r.frames
        unfold SS.top at ht
        cases hfr : st.frames with
        | nil => rw [hfr] at ht; simp at ht
        | cons f fs =>
          rw [hfr] at hf ht
          have h0 := hf.2 0 f a.tmps rfl rfl
          obtain ⟨v, hv, hr⟩ := h0.get ht
          have hr : v = .tuple u := hr
          have hv' : a.tmps[d]? = some (.tuple u) := by rw [← hr]; simpa using hv
          rw [hw]
          simp [yielded, hd, hv']
      · exact h.elim

theorem put_defers (a : Act) (d : Option Tmp) (v : Value) : (a.put d v).defers = a.defers := by cases d <;> rfl
/-- Operations one behind the other. -/
theorem listTree_sound (hX : CxOk X Γ) (hinl : InlOk X Γ inl) {ops : Array Oper} {Q : Exit → Act → World → Prop} : ∀ {l : List Oper} {k : SS → Tree} {ρ : List TV} {L : List (List TV → Prop)} {G : Nat → Prop} {st : SS} {as : List Value} {w : World} {a : Act}, st.lvl = L.length → Rel Γ X.gt ρ B G st as (a.tmps :: vss) w →
    (listTree X inl ops l st k).den Γ R ρ L →
    (∀ st' ρ' L' as' G' a' w', st'.lvl = L'.length → RExt ρ ρ' → LExt L L' → a'.defers = a.defers → Rel Γ X.gt ρ' B G' st' as' (a'.tmps :: vss) w' → Below B w w' → (k st').den Γ R ρ' L' → Q .normal a' w') → wpList X.P ops Q l a w
  | [], k, ρ, L, G, st, as, w, a, hl, r, h, hk => hk st ρ L as G a w hl (RExt.refl _) (LExt.refl _) rfl r (Below.refl _ _) h
  | o :: rest, k, ρ, L, G, st, as, w, a, hl, r, h, hk => by
    unfold listTree at h
    obtain ⟨b, rf, hw, h, r, _⟩ := guard_sound r h
    have hl := (refine1_lvl st rf).trans hl
    unfold wpList
    rw [hw]
    cases b with
    | false =>
      rw [if_neg (by simp)]
      rw [if_neg (by simp)] at h
      have r2 := r.put o.dst (s := undefS) (v := undef) rfl
      exact listTree_sound hX hinl (by rw [put_lvl]; exact hl) r2 h fun st' ρ' L' as' G' a' w' h0 h1 h2 h3 h4 h5 h6 => hk st' ρ' L' as' G' a' w' h0 h1 h2 (h3.trans (put_defers _ _ _)) h4 h5 h6
    | true =>
      rw [if_pos rfl]
      rw [if_pos rfl] at h
      refine .inl (opTree_sound hX hinl hl r h fun st' ρ' L' as' G' v w' h0 h1 h2 h3 h4 h5 => ?_)
      exact listTree_sound hX hinl h0 h3 h5 fun st'' ρ'' L'' as'' G'' a' w'' g0 g1 g2 g3 g4 g5 g6 => hk st'' ρ'' L'' as'' G'' a' w'' g0 (h1.trans g1) (h2.trans g2) (g3.trans (put_defers _ _ _)) g4 (h4.trans g5) g6
end
end Go.Proofs.YtccpepheooleoaaDoor
