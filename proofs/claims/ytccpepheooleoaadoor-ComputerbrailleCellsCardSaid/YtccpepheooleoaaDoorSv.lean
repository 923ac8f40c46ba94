/- Symbolic runs, part v: what a function returns; calls that are gone into; the contract of a function. -/
import Derived.Test.YtccpepheooleoaaDoorSu
namespace Go.Proofs.YtccpepheooleoaaDoor
set_option linter.unusedSimpArgs false
set_option linter.unusedVariables false
set_option linter.unusedSectionVars false
open Go.RowKit

def fnFind : List (FuncId × Func) → FuncId → Option Func
  | [], _ => none
  | (g, fn) :: r, f => if Nat.beq g f then some fn else fnFind r f
theorem fnFind_mem : ∀ {l : List (FuncId × Func)} {f : FuncId} {fn : Func}, fnFind l f = some fn → (f, fn) ∈ l
  | [], f, fn, h => by simp [fnFind] at h
  | (g, x) :: r, f, fn, h => by
    simp only [fnFind] at h
    split at h
    · rename_i e
      simp only [Option.some.injEq] at h
      rw [h, Nat.eq_of_beq_eq_true e]
      exact List.mem_cons_self
    · exact List.mem_cons_of_mem _ (fnFind_mem h)

/-! ### The results' slots -/
def resOf (P : Program) (st : SS) : List ResultVar → Option (List SV)
  | [] => some []
  | .tmp t :: r => match resOf P st r with
    | some l => some ((st.top[t]?).getD (.sc .undef) :: l)
    | none => none
  | .cell x t :: r => match st.top[x]? with
    | some (.sc s) => match sLoad P st t s, resOf P st r with
      | some v, some l => some (v :: l)
      | _, _ => none
    | _ => none
def partOf : SV → Option (Bool × List SC)
  | .sc s => some (false, [s])
  | .agg cs => some (true, cs)
  | .tup _ => none
def partsAll : List SV → Option (List (Bool × List SC))
  | [] => some []
  | s :: r => match partOf s, partsAll r with
    | some p, some l => some (p :: l)
    | _, _ => none
def tupOf (l : List SV) : Option SV := match l with
  | [s] => some s
  | l => match partsAll l with
    | some ps => some (.tup ps)
    | none => none
def valOf (vs : List Value) : Value := if vs.length = 1 then vs.headD undef else .tuple vs.toArray
def popF (st : SS) : SS := { st with frames := st.frames.drop 1 }

section
variable {Γ : CEnv} {gt : GT} {ρ : List TV} {B : Nat} {G : Nat → Prop} {st : SS} {as : List Value} {vss : List (Array Value)} {w : World} {P : Program}

theorem run_asAddr (ad : Addr) : (asAddr (.pointer (some ad))).run P w = .ok ad w := rfl
theorem resOf_sound {a : Act} (r : Rel Γ gt ρ B G st as (a.tmps :: vss) w) : ∀ {rs : List ResultVar} {l : List SV}, resOf P st rs = some l →
    ∃ vs : List Value, (rs.mapM (m := Sem) fun | .tmp t => pure (a.tmps.getD t undef) | .cell x t => do loadVar t (← asAddr (a.tmps.getD x undef))).run P w = .ok vs w ∧ All2 (RepV Γ ρ st.heap as (stable w G) (fresh w G B)) l vs
  | [], l, h => by
    simp only [resOf, Option.some.injEq] at h
    subst h
    exact ⟨[], by simp, All2.nil⟩
  | .tmp t :: rs, l, h => by
    simp only [resOf] at h
    split at h
    · rename_i l' hl
      simp only [Option.some.injEq] at h
      subst h
      obtain ⟨vs, h1, h2⟩ := resOf_sound r hl
      refine ⟨a.tmps.getD t undef :: vs, ?_, All2.cons (ev_rep r (.tmp t)) h2⟩
      simp only [List.mapM_cons, Sem.run_bind, Sem.run_pure, Result.andThen_ok, h1]
    · cases h
  | .cell x t :: rs, l, h => by
    simp only [resOf] at h
    split at h
    · rename_i s hs
      split at h
      · rename_i v l' hv hl
        simp only [Option.some.injEq] at h
        subst h
        obtain ⟨vs, h1, h2⟩ := resOf_sound r hl
        have hx := ev_rep r (.tmp x)
        have hevx : ev gt st (.tmp x) = .sc s := by unfold ev; dsimp only; rw [hs]; rfl
        rw [hevx] at hx
        have hx : RepC Γ ρ st.heap as (stable w G) (fresh w G B) s (a.tmps.getD x undef) := hx
        obtain ⟨u, k1, k2⟩ := sLoad_sound r hv hx
        have k1 := k1 w (Below.refl _ _)
        have hptr : ∃ g o, a.tmps.getD x undef = .pointer (some ⟨g, o, none⟩) := by
          unfold sLoad at hv
          split at hv
          · rename_i cells n hc _ _
            obtain ⟨g, o, e, _⟩ := cellsAt_reads r hc hx
            exact ⟨g, o, e⟩
          · rename_i cells y hc _
            obtain ⟨g, o, e, _⟩ := cellsAt_reads r hc hx
            exact ⟨g, o, e⟩
          · cases hv
        obtain ⟨g, o, hp⟩ := hptr
        rw [hp] at k1
        refine ⟨u :: vs, ?_, All2.cons k2 h2⟩
        have k1' : (loadVar t ⟨g, o, none⟩).run P w = .ok u w := by
          simpa only [Instr.loadAt, Instr.sureAddr, Sem.run_bind, Sem.run_pure, Result.andThen_ok] using k1
        simp only [List.mapM_cons, Sem.run_bind, hp, run_asAddr, Sem.run_pure, Result.andThen_ok, k1', h1]
      · cases h
    · cases h
theorem results_sound {a : Act} {fn : Func} (r : Rel Γ gt ρ B G st as (a.tmps :: vss) w) {l : List SV} (h : resOf P st fn.results.toList = some l) :
    ∃ vs : List Value, (results fn a.tmps).run P w = .ok (valOf vs) w ∧ All2 (RepV Γ ρ st.heap as (stable w G) (fresh w G B)) l vs := by
  obtain ⟨vs, h1, h2⟩ := resOf_sound (P := P) r h
  refine ⟨vs, ?_, h2⟩
  unfold results
  simp only [Sem.run_bind, Array.mapM_eq_mapM_toList, Sem.run_map]
  refine (congrArg (fun z => Result.andThen (Result.andThen z _) _) h1).trans ?_
  simp only [Result.andThen_ok, Sem.run_pure]
  congr 1
  unfold valOf
  cases vs with
  | nil => simp
  | cons v vs => cases vs with
    | nil => simp
    | cons u vs => simp

theorem partsAll_rep {hp : List Blk} {M Mf : Mem} : ∀ {l : List SV} {ps : List (Bool × List SC)} {vs : List Value}, partsAll l = some ps → All2 (RepV Γ ρ hp as M Mf) l vs → All2 (RepP Γ ρ hp as M Mf) ps vs
  | [], ps, vs, h, hv => by
    simp only [partsAll, Option.some.injEq] at h
    subst h
    have : vs = [] := List.eq_nil_of_length_eq_zero hv.1.symm
    subst this
    exact All2.nil
  | s :: l, ps, vs, h, hv => by
    simp only [partsAll] at h
    split at h
    · rename_i p l' h1 h2
      simp only [Option.some.injEq] at h
      subst h
      cases vs with
      | nil => have := hv.1; simp at this
      | cons v vs =>
        refine All2.cons ?_ (partsAll_rep h2 (by simpa using hv.drop 1))
        have h0 := hv.2 0 _ _ rfl rfl
        unfold partOf at h1
        cases s with
        | sc s => simp only [Option.some.injEq] at h1; subst h1; exact ⟨s, rfl, h0⟩
        | agg cs => simp only [Option.some.injEq] at h1; subst h1; exact h0
        | tup _ => cases h1
    · cases h
theorem tupOf_rep {hp : List Blk} {M Mf : Mem} {l : List SV} {sv : SV} {vs : List Value} (h : tupOf l = some sv) (hv : All2 (RepV Γ ρ hp as M Mf) l vs) : RepV Γ ρ hp as M Mf sv (valOf vs) := by
  unfold tupOf at h
  split at h
  · rename_i s
    simp only [Option.some.injEq] at h
    subst h
    cases vs with
    | nil => have := hv.1; simp at this
    | cons v vs =>
      have : vs = [] := List.eq_nil_of_length_eq_zero (by have := hv.1; simpa using this.symm)
      subst this
      exact hv.2 0 _ _ rfl rfl
  · rename_i hne
    split at h
    · rename_i ps hps
      simp only [Option.some.injEq] at h
      subst h
      have hl : vs.length ≠ 1 := by
        intro e
        have := hv.1
        rw [e] at this
        cases l with
        | nil => simp at this
        | cons s l => cases l with
          | nil => exact hne s rfl
          | cons _ _ => simp at this
      unfold valOf
      rw [if_neg hl]
      exact ⟨vs.toArray, rfl, partsAll_rep hps hv⟩
    · cases h
theorem Rel.pop {v : Array Value} (r : Rel Γ gt ρ B G st as (v :: vss) w) : Rel Γ gt ρ B G (popF st) as vss w :=
  ⟨r.nv, by have := r.frames.drop 1; simpa [popF] using this, r.alen, r.blks, r.own, r.dist, r.base, r.gs, r.globs⟩
end

/-! ### Calls that are gone into -/
def padF (fn : Func) (args : List SV) : List SV := args ++ List.replicate (fn.ntmps - args.length) undefS
def inlTree (X : Cx) : Nat → Inl
  | 0 => fun _ _ _ => .bad 60
  | n + 1 => fun f st k => match fnFind X.fns f with
    | none => .bad 61
    | some fn => match fn.body, st.frames with
      | some c, args :: fs => codeTree X (inlTree X n) f c { st with frames := padF fn args :: fs } fun e st' => match e with
        | .exit _ => .bad 62
        | _ => match resOf X.P st' fn.results.toList with
          | some l => match tupOf l with
            | some sv => k (popF st') sv
            | none => .bad 63
          | none => .bad 64
      | _, _ => .bad 65

theorem pad_rep {R : SV → Value → Prop} (hu : R undefS undef) {fn : Func} {args : List SV} {vals : Array Value} (h : All2 R args vals.toList) : All2 R (padF fn args) (vals ++ Array.replicate (fn.ntmps - vals.size) undef).toList := by
  unfold padF
  have : vals.size = args.length := by have := h.1; simp at this; exact this.symm
  rw [Array.toList_append, Array.toList_replicate, this]
  exact h.append (All2.rep _ hu)
theorem bodyPost_np {P : Program} {fn : Func} {K : Value → World → Prop} : ∀ c a w, ¬ bodyPost P fn (fun e w' => ∃ v, e = .returned v ∧ K v w') (.panic c) a w := by
  intro c a w h
  obtain ⟨_, v, h, _⟩ := h
  cases h

theorem inl_ok {X : Cx} {Γ : CEnv} (hX : CxOk X Γ) : ∀ n, InlOk X Γ (inlTree X n)
  | 0 => fun R f st args fs k ρ L B G as vals vss w K hl hf r h hk => h.elim
  | n + 1 => fun R f st args fs k ρ L B G as vals vss w K hl hf r h hk => by
    unfold inlTree at h
    split at h
    · exact h.elim
    · rename_i fn hfn
      obtain ⟨hP, hname⟩ := hX.fns _ (fnFind_mem hfn)
      dsimp only at hP hname
      split at h
      · rename_i c args' fs' hc hf'
        rw [hf] at hf'
        injection hf' with e1 e2
        subst e1 e2
        refine ⟨⟨fn, c, hP, hname, hc⟩, calls_of_wp hP hc ?_⟩
        have hfr := r.frames
        rw [hf] at hfr
        have r2 : Rel Γ X.gt ρ B G { st with frames := padF fn args :: fs } as ((vals ++ Array.replicate (fn.ntmps - vals.size) undef) :: vss) w :=
          ⟨r.nv, All2.cons (pad_rep rfl (hfr.2 0 _ _ rfl rfl)) (by simpa using hfr.drop 1), r.alen, r.blks, r.own, r.dist, r.base, r.gs, r.globs⟩
        refine codeTree_sound (f := f) (st := { st with frames := padF fn args :: fs }) (a := ⟨vals ++ Array.replicate (fn.ntmps - vals.size) undef, []⟩) hX (inl_ok hX n) bodyPost_np hl r2 h ?_
        intro e st' ρ' L' as' G' a' w' h0 h1 h2 h3 h4 h5 h6
        have fin : ∀ {t : Tree}, (match resOf X.P st' fn.results.toList with
          | some l => match tupOf l with
            | some sv => k (popF st') sv
            | none => .bad 63
          | none => .bad 64).den Γ R ρ' L' → a'.defers = [] ∧ ∃ v, (results fn a'.tmps).run X.P w' = .ok v w' ∧ ∃ u, Ending.returned v = .returned u ∧ K u w' := by
          intro _ h6
          split at h6
          · rename_i l hl'
            split at h6
            · rename_i sv hsv
              obtain ⟨vs, k1, k2⟩ := results_sound (P := X.P) (fn := fn) h4 hl'
              exact ⟨h3, valOf vs, k1, valOf vs, rfl, hk (popF st') sv ρ' L' as' G' (valOf vs) w' h0 h1 h2 h4.pop (tupOf_rep hsv k2) h5 h6⟩
            · exact h6.elim
          · exact h6.elim
        cases e with
        | exit j => exact h6.elim
        | normal => exact fin (t := .bad 0) h6
        | ret => exact fin (t := .bad 0) h6
      · exact h.elim

/-! ### What goes back -/
def flatSV : List (Bool × List (CT × Option TypeId)) → List SV → Option (List SC)
  | [], [] => some []
  | (true, xs) :: r, .agg cs :: l => if Nat.beq cs.length xs.length then (match flatSV r l with
    | some t => some (cs ++ t)
    | none => none) else none
  | (false, [_]) :: r, .sc s :: l => match flatSV r l with
    | some t => some (s :: t)
    | none => none
  | _, _ => none
def pass1 (hp : List Blk) : List (CT × Option TypeId) → List SC → Option (List (Option E) × List Blk)
  | [], [] => some ([], hp)
  | (ct, none) :: r, s :: ss => match reify hp ct s with
    | some (true, e, hp') => match pass1 hp' r ss with
      | some (l, hp'') => some (some e :: l, hp'')
      | none => none
    | _ => none
  | (_, some _) :: r, _ :: ss => match pass1 hp r ss with
    | some (l, hp') => some (none :: l, hp')
    | none => none
  | _, _ => none
def pass2 (hp : List Blk) : List (CT × Option TypeId) → List SC → List (Option E) → Option (List E × List Nat)
  | [], [], [] => some ([], [])
  | (_, none) :: r, _ :: ss, some e :: os => match pass2 hp r ss os with
    | some (l, u) => some (e :: l, u)
    | none => none
  | (.slice _ _, some _) :: r, .nil :: ss, none :: os => match pass2 hp r ss os with
    | some (l, u) => some (.nil :: l, u)
    | none => none
  | (.slice ag cs, some t) :: r, .own b ver :: ss, none :: os => match hp[b]? with
    | some blk => match blk.cont with
      | .row e => if Nat.beq blk.ver ver && blk.own && blk.fr && Nat.beq blk.ety t && (blk.ag == ag) && ctsEq blk.cs cs then (match pass2 hp r ss os with
        | some (l, u) => some (e :: l, b :: u)
        | none => none) else none
      | _ => none
    | none => none
  | _, _, _ => none
def groupE : List (Bool × List (CT × Option TypeId)) → List E → Option (List E)
  | [], [] => some []
  | x :: r, es => match elemOfEs x.1 (es.take x.2.length), groupE r (es.drop x.2.length) with
    | some e, some l => some (e :: l)
    | _, _ => none
  | _, _ => none
def retE (s : Sig) (st : SS) (l : List SV) : Option E := match flatSV s.res l with
  | some cells => match pass1 st.heap (resTypes s.res) cells with
    | some (os, hp) => match pass2 hp (resTypes s.res) cells os with
      | some (es, used) => if nodupN used then (match groupE s.res es with
        | some es' => if Nat.beq s.res.length 1 then (match es' with
          | [e] => some e
          | _ => none) else some (.o1 .agg (es'.foldr .cons .nil))
        | none => none) else none
      | none => none
    | none => none
  | none => none

section
variable {Γ : CEnv} {gt : GT} {ρ : List TV} {B : Nat} {G : Nat → Prop} {st : SS} {as : List Value} {vss : List (Array Value)} {w : World} {P : Program}

theorem flatSV_rep {hp : List Blk} {M Mf : Mem} : ∀ {res : List (Bool × List (CT × Option TypeId))} {l : List SV} {cells : List SC} {vs : List Value}, flatSV res l = some cells → All2 (RepV Γ ρ hp as M Mf) l vs →
    vs.length = res.length ∧ (∀ (i : Nat) x u, res[i]? = some x → vs[i]? = some u → ResShape x u) ∧ RepCs Γ ρ hp as M Mf cells (flatVals res vs) := by
  intro res
  induction res with
  | nil =>
    intro l cells vs h hv
    cases l with
    | nil =>
      simp only [flatSV, Option.some.injEq] at h
      subst h
      have : vs = [] := List.eq_nil_of_length_eq_zero hv.1.symm
      subst this
      exact ⟨rfl, fun i x u h => by simp at h, All2.nil⟩
    | cons _ _ => simp [flatSV] at h
  | cons x res ih =>
    intro l cells vs h hv
    cases l with
    | nil => simp [flatSV] at h
    | cons s l =>
      cases vs with
      | nil => have := hv.1; simp at this
      | cons v vs =>
        have hv0 := hv.2 0 _ _ rfl rfl
        have hvr : All2 (RepV Γ ρ hp as M Mf) l vs := by simpa using hv.drop 1
        obtain ⟨b, xs⟩ := x
        have fin : ∀ {t : List SC}, flatSV res l = some t → vs.length = res.length ∧ (∀ (i : Nat) x u, res[i]? = some x → vs[i]? = some u → ResShape x u) ∧ RepCs Γ ρ hp as M Mf t (flatVals res vs) := fun ht => ih ht hvr
        cases b with
        | true =>
          cases s with
          | sc s => simp [flatSV] at h
          | tup _ => simp [flatSV] at h
          | agg cs =>
            simp only [flatSV] at h
            split at h
            · rename_i hl
              split at h
              · rename_i t ht
                simp only [Option.some.injEq] at h
                subst h
                obtain ⟨a1, a2, a3⟩ := fin ht
                obtain ⟨us, rfl, hus⟩ := hv0
                refine ⟨by simp [a1], fun i y u hy hu => ?_, ?_⟩
                · cases i with
                  | zero =>
                    simp at hy hu
                    subst hy hu
                    have := hus.1
                    simp at this
                    exact ⟨us, rfl, by rw [← this]; exact Nat.eq_of_beq_eq_true hl⟩
                  | succ i => exact a2 i y u (by simpa using hy) (by simpa using hu)
                · exact All2.append hus a3
              · cases h
            · cases h
        | false =>
          cases s with
          | agg _ => simp [flatSV] at h
          | tup _ => simp [flatSV] at h
          | sc s =>
            cases xs with
            | nil => simp [flatSV] at h
            | cons y ys =>
              cases ys with
              | cons _ _ => simp [flatSV] at h
              | nil =>
                simp only [flatSV] at h
                split at h
                · rename_i t ht
                  simp only [Option.some.injEq] at h
                  subst h
                  obtain ⟨a1, a2, a3⟩ := fin ht
                  refine ⟨by simp [a1], fun i z u hy hu => ?_, ?_⟩
                  · cases i with
                    | zero =>
                      simp at hy hu
                      subst hy hu
                      exact rfl
                    | succ i => exact a2 i z u (by simpa using hy) (by simpa using hu)
                  · exact All2.cons hv0 a3
                · cases h

theorem pass1_sound : ∀ {ts : List (CT × Option TypeId)} {ss : List SC} {st : SS} {G : Nat → Prop} {os : List (Option E)} {hp' : List Blk} {vs : List Value}, Rel Γ gt ρ B G st as vss w → pass1 st.heap ts ss = some (os, hp') → RepCs Γ ρ st.heap as (stable w G) (fresh w G B) ss vs →
    ∃ G', Later Γ gt ρ B G st as vss w hp' G' ∧ ∀ (i : Nat) ct e v, ts[i]? = some (ct, none) → os[i]? = some (some e) → vs[i]? = some v → RepT (fresh w G' B) ct (e.den Γ ρ) v
  | [], [], st, G, os, hp', vs, r, h, hs => by
    simp only [pass1, Option.some.injEq, Prod.mk.injEq] at h
    obtain ⟨rfl, rfl⟩ := h
    exact ⟨G, .refl r, fun i ct e v h => by simp at h⟩
  | (ct, none) :: ts, s :: ss, st, G, os, hp', vs, r, h, hs => by
    simp only [pass1] at h
    split at h
    · rename_i e hp1 h1
      split at h
      · rename_i l hp2 h2
        simp only [Option.some.injEq, Prod.mk.injEq] at h
        obtain ⟨rfl, rfl⟩ := h
        cases vs with
        | nil => have := hs.1; simp at this
        | cons v vs =>
          obtain ⟨G1, l1, t1⟩ := reify_sound r h1 (hs.2 0 _ _ rfl rfl)
          have hrest : RepCs Γ ρ hp1 as (stable w G1) (fresh w G1 B) ss vs := by
            have := (RepCs.later l1 hs).drop 1
            simpa [RepCs] using this
          obtain ⟨G2, l2, t2⟩ := pass1_sound l1.rel h2 hrest
          refine ⟨G2, l1.trans l2, fun i ct' e' u hi ho hu => ?_⟩
          cases i with
          | zero =>
            simp at hi ho hu
            obtain ⟨rfl⟩ := hi
            subst ho hu
            exact t1.mono l2.mf
          | succ i => exact t2 i ct' e' u (by simpa using hi) (by simpa using ho) (by simpa using hu)
      · cases h
    · cases h
  | (ct, some t) :: ts, s :: ss, st, G, os, hp', vs, r, h, hs => by
    simp only [pass1] at h
    split at h
    · rename_i l hp2 h2
      simp only [Option.some.injEq, Prod.mk.injEq] at h
      obtain ⟨rfl, rfl⟩ := h
      cases vs with
      | nil => have := hs.1; simp at this
      | cons v vs =>
        obtain ⟨G2, l2, t2⟩ := pass1_sound r h2 (vs := vs) (by simpa [RepCs] using hs.drop 1)
        refine ⟨G2, l2, fun i ct' e' u hi ho hu => ?_⟩
        cases i with
        | zero => simp at hi
        | succ i => exact t2 i ct' e' u (by simpa using hi) (by simpa using ho) (by simpa using hu)
    · cases h
  | [], _ :: _, st, G, os, hp', vs, r, h, hs => by simp [pass1] at h
  | (_, none) :: _, [], st, G, os, hp', vs, r, h, hs => by simp [pass1] at h
  | (_, some _) :: _, [], st, G, os, hp', vs, r, h, hs => by simp [pass1] at h

theorem pass2_sound (r : Rel Γ gt ρ B G st as vss w) : ∀ {ts : List (CT × Option TypeId)} {ss : List SC} {os : List (Option E)} {es : List E} {used : List Nat} {vs : List Value}, pass2 st.heap ts ss os = some (es, used) → RepCs Γ ρ st.heap as (stable w G) (fresh w G B) ss vs →
    (∀ (i : Nat) ct e v, ts[i]? = some (ct, none) → os[i]? = some (some e) → vs[i]? = some v → RepT (fresh w G B) ct (e.den Γ ρ) v) →
    es.length = ts.length ∧ vs.length = ts.length ∧ (∀ (i : Nat) x e v, ts[i]? = some x → es[i]? = some e → vs[i]? = some v → ResC B w G x (e.den Γ ρ) v) ∧
      (∀ g ∈ ownCells ts vs, ∃ b ∈ used, ∃ (blk : Blk) (va : Value), st.heap[b]? = some blk ∧ as[b]? = some va ∧ blk.live = true ∧ gOf va = some g) ∧ (used.Nodup → (ownCells ts vs).Nodup) := by
  intro ts
  induction ts with
  | nil =>
    intro ss os es used vs h hs hf
    cases ss with
    | nil => cases os with
      | nil =>
        simp only [pass2, Option.some.injEq, Prod.mk.injEq] at h
        obtain ⟨rfl, rfl⟩ := h
        have : vs = [] := List.eq_nil_of_length_eq_zero hs.1.symm
        subst this
        exact ⟨rfl, rfl, fun i x e v h => by simp at h, fun g h => by simp [ownCells] at h, fun _ => by simp [ownCells]⟩
      | cons _ _ => simp [pass2] at h
    | cons _ _ => simp [pass2] at h
  | cons x ts ih =>
    intro ss os es used vs h hs hf
    cases vs with
    | nil =>
      have : ss = [] := List.eq_nil_of_length_eq_zero hs.1
      subst this
      simp [pass2] at h
    | cons v vs =>
      have hf' : ∀ {os' : List (Option E)} {o : Option E}, os = o :: os' → ∀ (i : Nat) ct e v', ts[i]? = some (ct, none) → os'[i]? = some (some e) → vs[i]? = some v' → RepT (fresh w G B) ct (e.den Γ ρ) v' := by
        intro os' o ho i ct e v' h1 h2 h3
        exact hf (i + 1) ct e v' (by simpa using h1) (by rw [ho]; simpa using h2) (by simpa using h3)
      have assemble : ∀ {l : List E} {u : List Nat} {e : E}, (l.length = ts.length ∧ vs.length = ts.length ∧ (∀ (i : Nat) x e v, ts[i]? = some x → l[i]? = some e → vs[i]? = some v → ResC B w G x (e.den Γ ρ) v)) → ResC B w G x (e.den Γ ρ) v →
          (e :: l).length = (x :: ts).length ∧ (v :: vs).length = (x :: ts).length ∧ ∀ (i : Nat) y e' v', (x :: ts)[i]? = some y → (e :: l)[i]? = some e' → (v :: vs)[i]? = some v' → ResC B w G y (e'.den Γ ρ) v' := by
        intro l u e ⟨a1, a2, a3⟩ h0
        refine ⟨by simp [a1], by simp [a2], fun i y e' v' hy he hv' => ?_⟩
        cases i with
        | zero =>
          simp at hy he hv'
          subst hy he hv'
          exact h0
        | succ i => exact a3 i y e' v' (by simpa using hy) (by simpa using he) (by simpa using hv')
      unfold pass2 at h
      split at h
      · cases ‹x :: ts = []›
      · rename_i ct r' s ss' e os' e1 
        injection e1 with e1 e2
        subst e1 e2
        split at h
        · rename_i l u hrec
          simp only [Option.some.injEq, Prod.mk.injEq] at h
          obtain ⟨rfl, rfl⟩ := h
          obtain ⟨a1, a2, a3, a4, a5⟩ := ih hrec (vs := vs) (by simpa [RepCs] using hs.drop 1) (hf' rfl)
          have h0 : ResC B w G (ct, none) (e.den Γ ρ) v := by
            have := hf 0 ct e v rfl rfl rfl
            cases ct <;> exact this
          obtain ⟨b1, b2, b3⟩ := assemble (u := []) ⟨a1, a2, a3⟩ h0
          have hoc : ownCells ((ct, none) :: ts) (v :: vs) = ownCells ts vs := by
            unfold ownCells
            simp only [List.zip_cons_cons, List.filterMap_cons]
          rw [hoc]
          exact ⟨b1, b2, b3, a4, a5⟩
        · cases h
      · rename_i ag cs t r' ss' os' e1
        injection e1 with e1 e2
        subst e1 e2
        split at h
        · rename_i l u hrec
          simp only [Option.some.injEq, Prod.mk.injEq] at h
          obtain ⟨rfl, rfl⟩ := h
          obtain ⟨a1, a2, a3, a4, a5⟩ := ih hrec (vs := vs) (by simpa [RepCs] using hs.drop 1) (hf' rfl)
          have hv : v = .slice none 0 0 := hs.2 0 _ _ rfl rfl
          subst hv
          have h0 : ResC B w G (.slice ag cs, some t) (E.nil.den Γ ρ) (.slice none 0 0) := ⟨[], World.ownsRow_nil _ _ _ _, RowT.nil, fun g h => by cases h⟩
          obtain ⟨b1, b2, b3⟩ := assemble (u := []) ⟨a1, a2, a3⟩ h0
          have hoc : ownCells ((.slice ag cs, some t) :: ts) (.slice none 0 0 :: vs) = ownCells ts vs := by
            unfold ownCells
            simp only [List.zip_cons_cons, List.filterMap_cons, gOf]
          rw [hoc]
          exact ⟨b1, b2, b3, a4, a5⟩
        · cases h
      · rename_i ag cs t r' b ver ss' os' e1
        injection e1 with e1 e2
        subst e1 e2
        split at h
        · rename_i blk hb
          split at h
          · rename_i e hc
            split at h
            · rename_i hcond
              simp only [Bool.and_eq_true, beq_iff_eq] at hcond
              obtain ⟨⟨⟨⟨⟨hver, ho⟩, hfr⟩, hety⟩, hag⟩, hcs⟩ := hcond
              have hety := Nat.eq_of_beq_eq_true hety
              have hcs := ctsEq_eq hcs
              split at h
              · rename_i l u hrec
                simp only [Option.some.injEq, Prod.mk.injEq] at h
                obtain ⟨rfl, rfl⟩ := h
                obtain ⟨a1, a2, a3, a4, a5⟩ := ih hrec (vs := vs) (by simpa [RepCs] using hs.drop 1) (hf' rfl)
                obtain ⟨_, blk0, va, g1, g2, g3, g4⟩ := hs.2 0 _ _ rfl rfl
                rw [hb] at g1
                injection g1 with g1
                subst g1
                obtain ⟨rfl, _⟩ := g4 (Nat.eq_of_beq_eq_true hver)
                have hbr := r.blks b blk v hb g2
                have hlive : blk.live = true := by simp [Blk.live, hc, ho]
                unfold BlkRel at hbr
                rw [hc] at hbr
                dsimp only at hbr
                rw [if_pos ho, hfr] at hbr
                obtain ⟨xs, q1, q2⟩ := hbr
                have h0 : ResC B w G (.slice ag cs, some t) (e.den Γ ρ) v := ⟨xs, by rw [← hety, ← hcs]; exact q1, by rw [← hag, ← hcs]; exact q2, fun g hg => r.own b blk v g hb g2 hlive hg⟩
                obtain ⟨b1, b2, b3⟩ := assemble (u := []) ⟨a1, a2, a3⟩ h0
                have hoc : ownCells ((.slice ag cs, some t) :: ts) (v :: vs) = (match gOf v with | some g => g :: ownCells ts vs | none => ownCells ts vs) := by
                  unfold ownCells
                  simp only [List.zip_cons_cons, List.filterMap_cons]
                  split <;> rename_i hb <;> rw [hb]
                rw [hoc]
                refine ⟨b1, b2, b3, ?_, ?_⟩
                · intro g hg
                  split at hg
                  · rename_i g' hg'
                    rcases List.mem_cons.1 hg with rfl | hg
                    · exact ⟨b, List.mem_cons_self, blk, v, hb, g2, hlive, hg'⟩
                    · obtain ⟨b', k1, k2⟩ := a4 g hg
                      exact ⟨b', List.mem_cons_of_mem _ k1, k2⟩
                  · obtain ⟨b', k1, k2⟩ := a4 g hg
                    exact ⟨b', List.mem_cons_of_mem _ k1, k2⟩
                · intro hnd
                  obtain ⟨n1, n2⟩ := List.nodup_cons.1 hnd
                  split
                  · rename_i g hg
                    refine List.nodup_cons.2 ⟨fun hmem => ?_, a5 n2⟩
                    obtain ⟨b', k1, blk', va', k2, k3, k4, k5⟩ := a4 g hmem
                    have := r.dist b b' blk blk' v va' g hb g2 hlive hg k2 k3 k4 k5
                    subst this
                    exact n1 k1
                  · exact a5 n2
              · cases h
            · cases h
          · cases h
        · cases h
      · cases h

theorem cellsTV_get {ag : Bool} {t : TV} : ∀ {cs : List (CT × Option TypeId)} {c j : Nat} {y : (CT × Option TypeId) × TV}, (cellsTV ag t cs c)[j]? = some y → cs[j]? = some y.1 ∧ y.2 = elemCell ag t (c + j)
  | [], c, j, y, h => by simp [cellsTV] at h
  | x :: cs, c, 0, y, h => by simp [cellsTV] at h; subst h; exact ⟨rfl, rfl⟩
  | x :: cs, c, j + 1, y, h => by
    simp only [cellsTV, List.getElem?_cons_succ] at h
    obtain ⟨h1, h2⟩ := cellsTV_get h
    exact ⟨by simpa using h1, by rw [h2, Nat.add_assoc, Nat.add_comm 1 j]⟩
theorem cellsTV_length {ag : Bool} {t : TV} : ∀ {cs : List (CT × Option TypeId)} {c : Nat}, (cellsTV ag t cs c).length = cs.length
  | [], _ => rfl
  | x :: cs, c => by simp [cellsTV, cellsTV_length]
theorem elemOfEs_cell {ag : Bool} {es : List E} {e e' : E} {c : Nat} (h : elemOfEs ag es = some e) (hc : es[c]? = some e') : elemCell ag (e.den Γ ρ) c = e'.den Γ ρ := by
  unfold elemOfEs at h
  unfold elemCell
  split at h
  · rename_i hag
    simp only [Option.some.injEq] at h
    subst h
    rw [if_pos hag]
    simp only [E.den, P1.den, TV.cell, cells_agg, foldr_den]
    rw [List.getD_eq_getElem?_getD, List.getElem?_map, hc]
    rfl
  · rename_i hag
    rw [if_neg hag]
    split at h
    · simp only [Option.some.injEq] at h
      subst h
      cases c with
      | zero => simp at hc; rw [hc]
      | succ c => simp at hc
    · cases h
theorem group_all {single : Bool} {rv : TV} : ∀ {res : List (Bool × List (CT × Option TypeId))} {es es' : List E} {vs : List Value} {i : Nat}, groupE res es = some es' → es.length = (resTypes res).length → vs.length = res.length →
    (∀ (j : Nat) x u, res[j]? = some x → vs[j]? = some u → ResShape x u) → (∀ (j : Nat) e, es'[j]? = some e → (if single then rv else rv.cell (i + j)) = e.den Γ ρ) →
    (flatVals res vs).length = (resTypes res).length → (∀ (j : Nat) x e v, (resTypes res)[j]? = some x → es[j]? = some e → (flatVals res vs)[j]? = some v → ResC B w G x (e.den Γ ρ) v) →
    All2 (fun (x : (CT × Option TypeId) × TV) v => ResC B w G x.1 x.2 v) (flatTV single rv res i) (flatVals res vs) := by
  intro res
  induction res with
  | nil => intro es es' vs i h hl hv hs hr hfl hall; exact All2.nil
  | cons x res ih =>
    intro es es' vs i h hl hv hs hr hfl hall
    cases vs with
    | nil => simp at hv
    | cons v vs =>
      simp only [groupE] at h
      split at h
      · rename_i e l h1 h2
        simp only [Option.some.injEq] at h
        subst h
        have h0 := hs 0 x v rfl rfl
        have hlen : (flatV x v).length = x.2.length := by
          unfold ResShape at h0
          unfold flatV
          split at h0
          · obtain ⟨a, rfl, e⟩ := h0
            rw [if_pos ‹_›]
            simpa [Value.cells] using e
          · rw [if_neg ‹_›, h0]
            rfl
        simp only [resTypes, List.length_append] at hl hfl
        simp only [flatVals, List.length_append] at hfl
        simp only [flatTV, flatVals]
        have hr0 := hr 0 e rfl
        rw [Nat.add_zero] at hr0
        refine All2.append ⟨by rw [cellsTV_length, hlen], fun j y u hy hu => ?_⟩ (ih (i := i + 1) h2 (by simp; omega) (by simpa using hv) (fun j y u hy hu => hs (j + 1) y u (by simpa using hy) (by simpa using hu)) (fun j e' he => ?_) (by omega) (fun j y e' u hy he hu => ?_))
        · obtain ⟨q1, q2⟩ := cellsTV_get hy
          rw [Nat.zero_add] at q2
          have hj : j < x.2.length := (List.getElem?_eq_some_iff.1 q1).1
          have hje : j < es.length := by omega
          have hget : (es.take x.2.length)[j]? = some es[j] := by rw [List.getElem?_take, if_pos hj]; exact List.getElem?_eq_getElem hje
          rw [q2, hr0, elemOfEs_cell h1 hget]
          exact hall j y.1 es[j] u (by simp only [resTypes]; rw [List.getElem?_append_left hj]; exact q1) (List.getElem?_eq_getElem hje) (by simp only [flatVals]; rw [List.getElem?_append_left (by rw [hlen]; exact hj)]; exact hu)
        · have := hr (j + 1) e' (by simpa using he)
          rw [show i + (j + 1) = i + 1 + j by omega] at this
          exact this
        · rw [List.getElem?_drop] at he
          exact hall (x.2.length + j) y e' u (by simp only [resTypes]; rw [List.getElem?_append_right (by omega), Nat.add_sub_cancel_left]; exact hy) he (by simp only [flatVals]; rw [List.getElem?_append_right (by omega), hlen, Nat.add_sub_cancel_left]; exact hu)
      · cases h
theorem groupE_length : ∀ {res : List (Bool × List (CT × Option TypeId))} {es l : List E}, groupE res es = some l → l.length = res.length
  | [], [], l, h => by simp only [groupE, Option.some.injEq] at h; subst h; rfl
  | [], _ :: _, l, h => by simp [groupE] at h
  | x :: res, es, l, h => by
    simp only [groupE] at h
    split at h
    · rename_i e l' h1 h2
      simp only [Option.some.injEq] at h
      subst h
      simp [groupE_length h2]
    · cases h
theorem retE_sound {s : Sig} (r : Rel Γ gt ρ B G st as vss w) {l : List SV} {e : E} {vs : List Value} (h : retE s st l = some e) (hv : All2 (RepV Γ ρ st.heap as (stable w G) (fresh w G B)) l vs) :
    ∃ G', (∀ g, G' g → B ≤ g ∧ g < w.heap.size) ∧ ResRep B w G' s.res (e.den Γ ρ) (valOf vs) := by
  unfold retE at h
  split at h
  · rename_i cells hfl
    split at h
    · rename_i os hp hp1
      split at h
      · rename_i es used hp2
        split at h
        · rename_i hnd
          split at h
          · rename_i es' hg
            obtain ⟨a1, a2, a3⟩ := flatSV_rep hfl hv
            obtain ⟨G', lt, t1⟩ := pass1_sound r hp1 a3
            obtain ⟨b1, b2, b3, _, b5⟩ := pass2_sound lt.rel hp2 (RepCs.later lt a3) t1
            have hgl := groupE_length hg
            refine ⟨G', lt.rel.gs, vs, ?_, a1, a2, ?_⟩
            · unfold valOf; rw [a1]
            · have hall : All2 (fun (x : (CT × Option TypeId) × TV) v => ResC B w G' x.1 x.2 v) (flatTV (Nat.beq s.res.length 1) (e.den Γ ρ) s.res 0) (flatVals s.res vs) := by
                refine group_all hg b1 a1 a2 (fun j e' he => ?_) b2 b3
                split at h
                · rename_i h1
                  rw [if_pos h1]
                  split at h
                  · simp only [Option.some.injEq] at h
                    subst h
                    cases j with
                    | zero => simp at he; rw [he]
                    | succ j => simp at he
                  · cases h
                · rename_i h1
                  rw [if_neg h1]
                  simp only [Option.some.injEq] at h
                  subst h
                  simp only [E.den, P1.den, TV.cell, cells_agg, foldr_den]
                  rw [Nat.zero_add, List.getD_eq_getElem?_getD, List.getElem?_map, he]
                  rfl
              exact ⟨hall.1, fun i x u hx hu => hall.2 i x u hx hu, b5 (nodupN_spec hnd)⟩
          · cases h
        · cases h
      · cases h
    · cases h
  · cases h
end
end Go.Proofs.YtccpepheooleoaaDoor
