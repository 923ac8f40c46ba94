/- Symbolic runs, part g: the operations that leave memory as it is, as one function. -/
import Derived.Test.YtccpepheooleoaaDoorSf
namespace Go.Proofs.YtccpepheooleoaaDoor
set_option linter.unusedSimpArgs false
set_option linter.unusedVariables false
set_option linter.unusedSectionVars false
open Go.RowKit

section
variable {Γ : CEnv} {gt : GT} {ρ : List TV} {B : Nat} {G : Nat → Prop} {st : SS} {as : List Value} {vss : List (Array Value)} {w : World} {P : Program}

def capsOf (gt : GT) (st : SS) : List Operand → Option (List (Nat × Nat))
  | [] => some []
  | x :: r => match ev gt st x, capsOf gt st r with
    | .sc (.ptr b ver (.int 0) 0), some l => some ((b, ver) :: l)
    | _, _ => none
theorem capsOf_rep {a : Act} (r : Rel Γ gt ρ B G st as (a.tmps :: vss) w) : ∀ {xs : List Operand} {l : List (Nat × Nat)}, capsOf gt st xs = some l →
    All2 (fun (x : Nat × Nat) u => u.oneCell' = true ∧ RepPtr Γ ρ st.heap as x.1 x.2 0 0 u) l (xs.map a.eval)
  | [], l, h => by simp only [capsOf, Option.some.injEq] at h; subst h; exact All2.nil
  | x :: xs, l, h => by
    simp only [capsOf] at h
    split at h
    · rename_i b ver l' h1 h2
      simp only [Option.some.injEq] at h
      subst h
      have hx := ev_rep r x
      rw [h1] at hx
      exact All2.cons hx (capsOf_rep r h2)
    · cases h
def sPart (P : Program) (t : TypeId) (f : Nat) (cs : List SC) : Option SV := match P.underlying t with
  | some (.struct fs) => match fs[f]? with
    | some fd => match aggP P fd.type, sizeP P fd.type with
      | some true, some n => if Nat.ble (fd.offset + n) cs.length then some (.agg ((cs.drop fd.offset).take n)) else none
      | some false, _ => match cs[fd.offset]? with
        | some s => some (.sc s)
        | none => none
      | _, _ => none
    | none => none
  | _ => none
theorem sPart_sound {hp : List Blk} {as : List Value} {M Mf : Mem} {t : TypeId} {f : Nat} {cs : List SC} {out : SV} {vs : Array Value} (h : sPart P t f cs = some out) (hx : RepCs Γ ρ hp as M Mf cs vs.toList) :
    ∃ u, (∀ w : World, (Instr.field t (.agg vs) f).run P w = .ok u w) ∧ RepV Γ ρ hp as M Mf out u := by
  unfold sPart at h
  split at h
  · rename_i fs hu
    split at h
    · rename_i fd hf
      split at h
      · rename_i n ha hs
        split at h
        · rename_i hn
          simp only [Nat.ble_eq] at hn
          simp only [Option.some.injEq] at h
          subst h
          refine ⟨.agg (vs.extract fd.offset (fd.offset + n)), fun w => ?_, _, rfl, ?_⟩
          · simp only [Instr.field, asAgg, part, Sem.run_bind, Sem.run_pure, run_underlying hu, Result.andThen_ok, hf, run_isAgg ha, if_true, run_sizeOf hs]
          · have : (vs.extract fd.offset (fd.offset + n)).toList = (vs.toList.drop fd.offset).take n := by
              rw [Array.toList_extract, List.extract_eq_take_drop]
              congr 1
              omega
            rw [this]
            exact (hx.drop _).take _
        · cases h
      · rename_i x ha
        split at h
        · rename_i s hc
          simp only [Option.some.injEq] at h
          subst h
          obtain ⟨u, k1, k2⟩ := hx.get hc
          have k1' : vs[fd.offset]? = some u := by simpa using k1
          refine ⟨u, fun w => ?_, k2⟩
          simp only [Instr.field, asAgg, part, Sem.run_bind, Sem.run_pure, run_underlying hu, Result.andThen_ok, hf, run_isAgg ha, Bool.false_eq_true, if_false, k1']
        · cases h
      · cases h
    · cases h
  · cases h

def opt (gt : GT) (st : SS) : Option Operand → Option SV
  | none => none
  | some x => some (ev gt st x)
theorem opt_rep {a : Act} (r : Rel Γ gt ρ B G st as (a.tmps :: vss) w) (x : Option Operand) : RepO Γ ρ st.heap as (stable w G) (fresh w G B) (opt gt st x) (x.map a.eval) := by
  cases x with
  | none => trivial
  | some x => exact ev_rep r x

def sMin (mx : Bool) (x y : SV) : Option SV := match x, y with
  | .sc (.int k a), .sc (.int _ b) => some (.sc (.int k (mk2 (if mx then .max else .min) a b)))
  | _, _ => none
theorem run_min_int (ts : Array TypeId) (t : TypeId) (k k' : IntKind) (x y : Int) : (Builtin.min_ ts t #[.int k x, .int k' y]).run P w = .ok (.int k (min x y)) w := by
  simp only [Builtin.min_, List.foldlM_cons, List.foldlM_nil, Builtin.min2, Sem.run_bind, Sem.run_pure, Result.andThen_ok]
  congr 2
  split <;> omega
theorem run_max_int (ts : Array TypeId) (t : TypeId) (k k' : IntKind) (x y : Int) : (Builtin.max_ ts t #[.int k x, .int k' y]).run P w = .ok (.int k (max x y)) w := by
  simp only [Builtin.max_, List.foldlM_cons, List.foldlM_nil, Builtin.max2, Sem.run_bind, Sem.run_pure, Result.andThen_ok]
  congr 2
  split <;> omega

def pairO : Option (List E × SC) → Option (List E × SV)
  | some (r, s) => some (r, .sc s)
  | none => none
def scO : Option SC → Option (List E × SV)
  | some s => some ([], .sc s)
  | none => none
def svO : Option SV → Option (List E × SV)
  | some s => some ([], s)
  | none => none
def isPtr : SC → Bool
  | .ptr .. | .pel .. => true
  | _ => false

def sopR (P : Program) (gt : GT) (st : SS) (o : Op) : Option (List E × SV) := match o with
  | .move x => some ([], ev gt st x)
  | .assign x => some ([], ev gt st x)
  | .pick c a b => match ev gt st c with
    | .sc (.bool (.bool t)) => some ([], if t then ev gt st a else ev gt st b)
    | _ => none
  | .build t parts => match partsOf gt st parts.toList with
    | some l => match sBuilt P t l with
      | some cs => some ([], .agg cs)
      | none => none
    | none => none
  | .load t x => match ev gt st x with
    | .sc s => svO (sLoad P st t s)
    | _ => none
  | .nilCheck x => match ev gt st x with
    | .sc s => if isPtr s && s.cur st.heap then some ([], .sc s) else none
    | _ => none
  | .binOp op t x y _ => match ev gt st x, ev gt st y with
    | .sc a, .sc b => pairO (sBin P op t a b)
    | _, _ => none
  | .unOp op _ x => match ev gt st x with
    | .sc a => scO (sUn op a)
    | _ => none
  | .convert src dst x => match ev gt st x with
    | .sc a => scO (sConv P st src dst a)
    | _ => none
  | .slice t x lo hi none => pairO (sSlice P st t (ev gt st x) (opt gt st lo) (opt gt st hi))
  | .fieldAddr t x f => match ev gt st x with
    | .sc a => if a.cur st.heap then scO (sField P t f a) else none
    | _ => none
  | .field t x f => match ev gt st x with
    | .agg cs => svO (sPart P t f cs)
    | _ => none
  | .indexAddr t x ix => match ev gt st x, ev gt st ix with
    | .sc a, .sc b => pairO (sIndexAddr P st t a b)
    | _, _ => none
  | .index t x ix => match ev gt st x, ev gt st ix with
    | .sc a, .sc b => pairO (sIndex P t a b)
    | _, _ => none
  | .extract x i => match ev gt st x with
    | .tup ps => match ps[i]? with
      | some (true, cs) => some ([], .agg cs)
      | some (false, [s]) => some ([], .sc s)
      | _ => none
    | _ => none
  | .makeFunc (.func f) ⟨[]⟩ caps => match capsOf gt st caps.toList with
    | some l => some ([], .sc (.fn f l))
    | none => none
  | .call ⟨.builtin .len, ⟨[x]⟩, ⟨[t]⟩⟩ => match ev gt st x with
    | .sc a => scO (sLen P st t a)
    | _ => none
  | .call ⟨.builtin .min, ⟨[x, y]⟩, _⟩ => svO (sMin false (ev gt st x) (ev gt st y))
  | .call ⟨.builtin .max, ⟨[x, y]⟩, _⟩ => svO (sMin true (ev gt st x) (ev gt st y))
  | _ => none

/-- What yields the same value in every world that has grown. -/
def isV (gt : GT) (st : SS) (o : Op) : Bool := match o with
  | .convert _ _ x => match ev gt st x with
    | .sc s => s.plain
    | _ => false
  | _ => true
theorem run_v {sem : Sem Value} {v : Value} {w' : World} (h : sem.run P w = .ok v w') : (do pure (Next.value (← sem)) : Sem Next).run P w = .ok (.value v) w' := by
  simp only [Sem.run_bind, h, Result.andThen_ok, Sem.run_pure]

theorem sopR_sound {a : Act} {o : Oper} (r : Rel Γ gt ρ B G st as (a.tmps :: vss) w) {req : List E} {val : SV} (h : sopR P gt st o.op = some (req, val)) (hq : Holds Γ ρ req) :
    ∃ v, (execOp a.eval o).run P w = .ok (.value v) w ∧ (isV gt st o.op = true → ∀ w2 : World, Below w.heap.size w w2 → (execOp a.eval o).run P w2 = .ok (.value v) w2) ∧ RepV Γ ρ st.heap as (stable w G) (fresh w G B) val v := by
  have hev := fun x => ev_rep r x
  unfold sopR at h
  unfold execOp
  split at h
  · rename_i x ho
    simp only [Option.some.injEq, Prod.mk.injEq] at h
    obtain ⟨rfl, rfl⟩ := h
    rw [ho]
    exact ⟨_, rfl, fun _ _ _ => rfl, hev x⟩
  · rename_i x ho
    simp only [Option.some.injEq, Prod.mk.injEq] at h
    obtain ⟨rfl, rfl⟩ := h
    rw [ho]
    exact ⟨_, rfl, fun _ _ _ => rfl, hev x⟩
  · rename_i c x y ho
    rw [ho]
    split at h
    · rename_i t hc
      simp only [Option.some.injEq, Prod.mk.injEq] at h
      obtain ⟨rfl, rfl⟩ := h
      have h1 := hev c
      rw [hc] at h1
      have h1 : a.eval c = .bool t := h1
      dsimp only
      rw [h1]
      cases t
      · exact ⟨_, rfl, fun _ _ _ => rfl, hev y⟩
      · exact ⟨_, rfl, fun _ _ _ => rfl, hev x⟩
    · cases h
  · rename_i t parts ho
    rw [ho]
    split at h
    · rename_i l hl
      split at h
      · rename_i cs hc
        simp only [Option.some.injEq, Prod.mk.injEq] at h
        obtain ⟨rfl, rfl⟩ := h
        have hp := partsOf_rep r hl
        obtain ⟨cells, k1, k2⟩ := sBuilt_sound (P := P) (vals := parts.map fun (i, x) => (i, a.eval x)) hc (by rw [Array.toList_map]; exact hp)
        exact ⟨_, run_v (k1 w), fun _ w2 _ => run_v (k1 w2), cells, rfl, k2⟩
      · cases h
    · cases h
  · rename_i t x ho
    rw [ho]
    split at h
    · rename_i s hs
      unfold svO at h
      split at h
      · rename_i s' hl
        simp only [Option.some.injEq, Prod.mk.injEq] at h
        obtain ⟨rfl, rfl⟩ := h
        have h1 := hev x
        rw [hs] at h1
        obtain ⟨u, k1, k2⟩ := sLoad_sound r hl h1
        exact ⟨u, run_v (k1 w (Below.refl _ _)), fun _ w2 hb => run_v (k1 w2 hb), k2⟩
      · cases h
    · cases h
  · rename_i x ho
    rw [ho]
    split at h
    · rename_i s hs
      split at h
      · rename_i hcond
        simp only [Bool.and_eq_true] at hcond
        simp only [Option.some.injEq, Prod.mk.injEq] at h
        obtain ⟨rfl, rfl⟩ := h
        have h1 := hev x
        rw [hs] at h1
        have hp : ∃ ad, a.eval x = .pointer (some ad) := by
          cases s <;> first | (simp [isPtr] at hcond; done) | skip
          · obtain ⟨_, blk, va, g1, g2, g3, g4⟩ := h1
            have hcur := hcond.2
            simp only [SC.cur, g1] at hcur
            obtain ⟨n, g, _, _, _, _, e⟩ := g4 (Nat.eq_of_beq_eq_true hcur)
            exact ⟨_, e⟩
          · obtain ⟨g, off, cap, _, _, _, e⟩ := h1
            exact ⟨_, e⟩
        obtain ⟨ad, had⟩ := hp
        refine ⟨a.eval x, ?_, fun _ w2 _ => ?_, h1⟩
        · dsimp only
          rw [had]
          rfl
        · dsimp only
          rw [had]
          rfl
      · cases h
    · cases h
  · rename_i op t x y yt ho
    rw [ho]
    split at h
    · rename_i s1 s2 e1 e2
      unfold pairO at h
      split at h
      · rename_i rq s hb
        simp only [Option.some.injEq, Prod.mk.injEq] at h
        obtain ⟨rfl, rfl⟩ := h
        have h1 := hev x
        have h2 := hev y
        rw [e1] at h1
        rw [e2] at h2
        obtain ⟨z, k1, k2⟩ := sBin_sound (P := P) (xo := x) (yo := y) hb h1 h2 hq
        exact ⟨z, run_v (k1 w), fun _ w2 _ => run_v (k1 w2), k2⟩
      · cases h
    · cases h
  · rename_i op t x ho
    rw [ho]
    split at h
    · rename_i s1 e1
      unfold scO at h
      split at h
      · rename_i s hb
        simp only [Option.some.injEq, Prod.mk.injEq] at h
        obtain ⟨rfl, rfl⟩ := h
        have h1 := hev x
        rw [e1] at h1
        obtain ⟨z, k1, k2⟩ := sUn_sound (P := P) hb h1
        exact ⟨z, run_v (k1 w), fun _ w2 _ => run_v (k1 w2), k2⟩
      · cases h
    · cases h
  · rename_i src dst x ho
    rw [ho]
    split at h
    · rename_i s1 e1
      unfold scO at h
      split at h
      · rename_i s hb
        simp only [Option.some.injEq, Prod.mk.injEq] at h
        obtain ⟨rfl, rfl⟩ := h
        have h1 := hev x
        rw [e1] at h1
        obtain ⟨z, k1, k3, k2⟩ := sConv_sound (P := P) r hb h1
        exact ⟨z, run_v k1, fun hV w2 _ => run_v (k3 (by simp only [isV, e1] at hV; exact hV) w2), k2⟩
      · cases h
    · cases h
  · rename_i t x lo hi ho
    rw [ho]
    unfold pairO at h
    split at h
    · rename_i rq s hb
      simp only [Option.some.injEq, Prod.mk.injEq] at h
      obtain ⟨rfl, rfl⟩ := h
      obtain ⟨z, k1, k2⟩ := sSlice_sound (P := P) r hb (hev x) (opt_rep r lo) (opt_rep r hi) hq
      exact ⟨z, run_v (k1 w), fun _ w2 _ => run_v (k1 w2), k2⟩
    · cases h
  · rename_i t x f ho
    rw [ho]
    split at h
    · rename_i s1 e1
      split at h
      · rename_i hcur
        unfold scO at h
        split at h
        · rename_i s hb
          simp only [Option.some.injEq, Prod.mk.injEq] at h
          obtain ⟨rfl, rfl⟩ := h
          have h1 := hev x
          rw [e1] at h1
          obtain ⟨z, k1, k2⟩ := sField_sound (P := P) hb hcur h1
          exact ⟨z, run_v (k1 w), fun _ w2 _ => run_v (k1 w2), k2⟩
        · cases h
      · cases h
    · cases h
  · rename_i t x f ho
    rw [ho]
    split at h
    · rename_i cs e1
      unfold svO at h
      split at h
      · rename_i s hb
        simp only [Option.some.injEq, Prod.mk.injEq] at h
        obtain ⟨rfl, rfl⟩ := h
        have h1 := hev x
        rw [e1] at h1
        obtain ⟨vs, e2, h2⟩ := h1
        obtain ⟨z, k1, k2⟩ := sPart_sound (P := P) hb h2
        rw [← e2] at k1
        exact ⟨z, run_v (k1 w), fun _ w2 _ => run_v (k1 w2), k2⟩
      · cases h
    · cases h
  · rename_i t x ix ho
    rw [ho]
    split at h
    · rename_i s1 s2 e1 e2
      unfold pairO at h
      split at h
      · rename_i rq s hb
        simp only [Option.some.injEq, Prod.mk.injEq] at h
        obtain ⟨rfl, rfl⟩ := h
        have h1 := hev x
        have h2 := hev ix
        rw [e1] at h1
        rw [e2] at h2
        obtain ⟨z, k1, k2⟩ := sIndexAddr_sound (P := P) r hb h1 h2 hq
        exact ⟨z, run_v (k1 w), fun _ w2 _ => run_v (k1 w2), k2⟩
      · cases h
    · cases h
  · rename_i t x ix ho
    rw [ho]
    split at h
    · rename_i s1 s2 e1 e2
      unfold pairO at h
      split at h
      · rename_i rq s hb
        simp only [Option.some.injEq, Prod.mk.injEq] at h
        obtain ⟨rfl, rfl⟩ := h
        have h1 := hev x
        have h2 := hev ix
        rw [e1] at h1
        rw [e2] at h2
        obtain ⟨z, k1, k2⟩ := sIndex_sound (P := P) hb h1 h2 hq
        exact ⟨z, run_v (k1 w), fun _ w2 _ => run_v (k1 w2), k2⟩
      · cases h
    · cases h
  · rename_i x i ho
    rw [ho]
    split at h
    · rename_i ps e1
      have h1 := hev x
      rw [e1] at h1
      obtain ⟨vs, e2, h2⟩ := h1
      split at h
      · rename_i cs hi
        simp only [Option.some.injEq, Prod.mk.injEq] at h
        obtain ⟨rfl, rfl⟩ := h
        obtain ⟨u, k1, k2⟩ := h2.get hi
        have k1' : vs[i]? = some u := by simpa using k1
        refine ⟨u, ?_, fun _ w2 _ => ?_, by simpa [RepP, RepV] using k2⟩
        · dsimp only
          rw [e2]
          simp only [Instr.extract, k1', Sem.run_bind, Sem.run_pure, Result.andThen_ok]
        · dsimp only
          rw [e2]
          simp only [Instr.extract, k1', Sem.run_bind, Sem.run_pure, Result.andThen_ok]
      · rename_i s hi
        simp only [Option.some.injEq, Prod.mk.injEq] at h
        obtain ⟨rfl, rfl⟩ := h
        obtain ⟨u, k1, k2⟩ := h2.get hi
        have k1' : vs[i]? = some u := by simpa using k1
        refine ⟨u, ?_, fun _ w2 _ => ?_, by simpa [RepP, RepV] using k2⟩
        · dsimp only
          rw [e2]
          simp only [Instr.extract, k1', Sem.run_bind, Sem.run_pure, Result.andThen_ok]
        · dsimp only
          rw [e2]
          simp only [Instr.extract, k1', Sem.run_bind, Sem.run_pure, Result.andThen_ok]
      · cases h
    · cases h
  · rename_i f caps ho
    rw [ho]
    split at h
    · rename_i l hl
      simp only [Option.some.injEq, Prod.mk.injEq] at h
      obtain ⟨rfl, rfl⟩ := h
      refine ⟨_, rfl, fun _ _ _ => rfl, caps.toList.map a.eval, ?_, capsOf_rep r hl⟩
      have e1 : caps.map a.eval = (caps.toList.map a.eval).toArray := by apply Array.ext'; simp
      have e2 : Array.map a.eval (⟨[]⟩ : Array Operand) = #[] := by simp
      rw [e1, e2]
    · cases h
  · rename_i x t ho
    rw [ho]
    split at h
    · rename_i s1 e1
      unfold scO at h
      split at h
      · rename_i s hb
        simp only [Option.some.injEq, Prod.mk.injEq] at h
        obtain ⟨rfl, rfl⟩ := h
        have h1 := hev x
        rw [e1] at h1
        obtain ⟨z, k1, k2⟩ := sLen_sound (P := P) (ty := o.type) r hb h1
        refine ⟨z, ?_, fun _ w2 _ => ?_, k2⟩
        · simp only [resolve, invoke, builtin, Sem.run_bind, Sem.run_pure, Result.andThen_ok, List.map_toArray, List.map_cons, List.map_nil, k1 w]
        · simp only [resolve, invoke, builtin, Sem.run_bind, Sem.run_pure, Result.andThen_ok, List.map_toArray, List.map_cons, List.map_nil, k1 w2]
      · cases h
    · cases h
  · rename_i x y ts ho
    rw [ho]
    unfold svO sMin at h
    have h1 := hev x
    have h2 := hev y
    revert h h1 h2
    generalize ev gt st x = sx
    generalize ev gt st y = sy
    intro h h1 h2
    split at h
    · rename_i s hs
      split at hs
      · rename_i k p k' q
        simp only [Option.some.injEq] at hs
        simp only [Option.some.injEq, Prod.mk.injEq] at h
        obtain ⟨rfl, rfl⟩ := h
        subst hs
        simp only [RepV, RepC] at h1 h2
        refine ⟨_, ?_, fun _ w2 _ => ?_, rfl⟩
        · simp only [resolve, invoke, builtin, Sem.run_bind, Sem.run_pure, Result.andThen_ok, List.map_toArray, List.map_cons, List.map_nil, h1, h2, run_min_int, mk2_den]
          rfl
        · simp only [resolve, invoke, builtin, Sem.run_bind, Sem.run_pure, Result.andThen_ok, List.map_toArray, List.map_cons, List.map_nil, h1, h2, run_min_int, mk2_den]
          rfl
      · cases hs
    · cases h
  · rename_i x y ts ho
    rw [ho]
    unfold svO sMin at h
    have h1 := hev x
    have h2 := hev y
    revert h h1 h2
    generalize ev gt st x = sx
    generalize ev gt st y = sy
    intro h h1 h2
    split at h
    · rename_i s hs
      split at hs
      · rename_i k p k' q
        simp only [Option.some.injEq] at hs
        simp only [Option.some.injEq, Prod.mk.injEq] at h
        obtain ⟨rfl, rfl⟩ := h
        subst hs
        simp only [RepV, RepC] at h1 h2
        refine ⟨_, ?_, fun _ w2 _ => ?_, rfl⟩
        · simp only [resolve, invoke, builtin, Sem.run_bind, Sem.run_pure, Result.andThen_ok, List.map_toArray, List.map_cons, List.map_nil, h1, h2, run_max_int, mk2_den]
          rfl
        · simp only [resolve, invoke, builtin, Sem.run_bind, Sem.run_pure, Result.andThen_ok, List.map_toArray, List.map_cons, List.map_nil, h1, h2, run_max_int, mk2_den]
          rfl
      · cases hs
    · cases h
  · cases h
end
end Go.Proofs.YtccpepheooleoaaDoor
