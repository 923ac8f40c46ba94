/- Symbolic runs, part m: every operation. -/
import Derived.Test.YtccpepheooleoaaDoorSl
namespace Go.Proofs.YtccpepheooleoaaDoor
set_option linter.unusedSimpArgs false
set_option linter.unusedVariables false
set_option linter.unusedSectionVars false
open Go.RowKit

section
variable {Γ : CEnv} {gt : GT} {ρ : List TV} {B : Nat} {G : Nat → Prop} {st : SS} {as : List Value} {vss : List (Array Value)} {w : World} {P : Program}

def isStrT (P : Program) (t : TypeId) : Bool := match P.underlying t with | some .string => true | _ => false
theorem isStrT_eq {t : TypeId} (h : isStrT P t = true) : P.underlying t = some .string := by
  unfold isStrT at h
  split at h
  · assumption
  · cases h
def sConvW (P : Program) (st : SS) (src dst : TypeId) (x : SC) : Option Out := if isStrT P src then (match P.underlying dst, x with
  | some (.slice e), .str s => if isIntT P e .u8 then some ⟨[mk2 .lei (mk1 .slen s) (.int bound40)], .sc (.imm true false [.int .u8] (mk1 .bytesOf s)), st.heap, false⟩
    else if isIntT P e .i32 then some (newRow st [mk2 .lei (mk1 .slen s) (.int bound40)] st.heap true e false [.int .i32] (mk1 .runesOf s))
    else none
  | _, _ => none) else none

theorem runesFrom_toList (s : ByteArray) : ∀ (n i : Nat) (acc : Array Value), (∀ v ∈ acc.toList, ∃ r : Int, v = .int .i32 r) → ∀ v ∈ (Conv.runesFrom s n i acc).toList, ∃ r : Int, v = .int .i32 r
  | 0, i, acc, h => h
  | n + 1, i, acc, h => by
    unfold Conv.runesFrom
    split
    · refine runesFrom_toList s n _ _ fun v hv => ?_
      simp only [Array.toList_push, List.mem_append, List.mem_singleton] at hv
      rcases hv with hv | hv
      · exact h v hv
      · exact ⟨_, hv⟩
    · exact h
theorem runes_cells (s : List UInt8) : (Conv.runesFrom ⟨s.toArray⟩ s.length 0 #[]).toList = (runeList s).map fun t => .int .i32 t.asInt := by
  unfold runeList
  rw [List.map_map]
  have h := runesFrom_toList ⟨s.toArray⟩ s.length 0 #[] (fun v hv => by simp at hv)
  revert h
  generalize (Conv.runesFrom ⟨s.toArray⟩ s.length 0 #[]).toList = l
  intro h
  induction l with
  | nil => rfl
  | cons v l ih =>
    obtain ⟨r, rfl⟩ := h v (by simp)
    rw [List.map_cons, ← ih (fun v hv => h v (by simp [hv]))]
    rfl
theorem RowT.of_ints {M : Mem} {k : IntKind} {ts : List TV} : RowT M false [.int k] ts (ts.map fun t => .int k t.asInt) := by
  refine ⟨by simp, fun i hi c hc => ?_⟩
  have hc0 : c = 0 := by simpa using hc
  subst hc0
  refine ⟨.int k ts[i].asInt, by simp [hi], ?_⟩
  exact .int k _

theorem sConvW_sound (r : Rel Γ gt ρ B G st as vss w) {src dst : TypeId} {x : SC} {out : Out} {v : Value} (h : sConvW P st src dst x = some out) (hx : RepC Γ ρ st.heap as (stable w G) (fresh w G B) x v) (hq : Holds Γ ρ out.req) :
    Done P Γ gt ρ B st vss w out ((convert src dst v).run P w) := by
  unfold sConvW at h
  split at h
  · rename_i hs
    have hs := isStrT_eq hs
    split at h
    · rename_i e s hd
      simp only [RepC] at hx
      subst hx
      split at h
      · rename_i he
        have he := isIntT_eq he
        simp only [Option.some.injEq] at h
        subst h
        have hq1 := le_den (holds_one hq)
        rw [slen_den] at hq1
        have hq1 : ((s.den Γ ρ).asStr.length : Int) ≤ 1099511627776 := hq1
        rw [run_bytes_of_string w src dst e _ hs hd he]
        have hsz : (⟨(s.den Γ ρ).asStr.toArray⟩ : ByteArray).size = (s.den Γ ρ).asStr.length := bytes_size _
        have hge := grownCap_ge w (⟨(s.den Γ ρ).asStr.toArray⟩ : ByteArray).size 0 e
        have hmx := grownCap_le_maxLen w (⟨(s.den Γ ρ).asStr.toArray⟩ : ByteArray).size 0 e (by rw [hsz]; unfold maxLen; omega)
        have r2 := Rel.other r.drew (.cells (bytesRow ⟨(s.den Γ ρ).asStr.toArray⟩ (grownCap w (⟨(s.den Γ ρ).asStr.toArray⟩ : ByteArray).size 0 e)) e ((bytesRow ⟨(s.den Γ ρ).asStr.toArray⟩ (grownCap w (⟨(s.den Γ ρ).asStr.toArray⟩ : ByteArray).size 0 e)).size, (bytesRow ⟨(s.den Γ ρ).asStr.toArray⟩ (grownCap w (⟨(s.den Γ ρ).asStr.toArray⟩ : ByteArray).size 0 e)).size + 1))
        have hbelow : Below w.heap.size w (w.drew.alloc (.cells (bytesRow ⟨(s.den Γ ρ).asStr.toArray⟩ (grownCap w (⟨(s.den Γ ρ).asStr.toArray⟩ : ByteArray).size 0 e)) e ((bytesRow ⟨(s.den Γ ρ).asStr.toArray⟩ (grownCap w (⟨(s.den Γ ρ).asStr.toArray⟩ : ByteArray).size 0 e)).size, (bytesRow ⟨(s.den Γ ρ).asStr.toArray⟩ (grownCap w (⟨(s.den Γ ρ).asStr.toArray⟩ : ByteArray).size 0 e)).size + 1))) := ((Below.refl _ _).drew).alloc (Nat.le_refl _) _
        refine ⟨_, _, _, _, rfl, r2, ?_, hbelow.mono r.base, fun _ => hbelow⟩
        have hden : (((mk1 .bytesOf s).den Γ ρ)).asList = (s.den Γ ρ).asStr.map fun b => TV.int b.toNat := by rw [mk1_den]; rfl
        have hlen : (((mk1 .bytesOf s).den Γ ρ)).asList.length = (⟨(s.den Γ ρ).asStr.toArray⟩ : ByteArray).size := by rw [hden, hsz]; simp
        have hT := RepT.slice (M := fresh (w.drew.alloc (.cells (bytesRow ⟨(s.den Γ ρ).asStr.toArray⟩ (grownCap w (⟨(s.den Γ ρ).asStr.toArray⟩ : ByteArray).size 0 e)) e ((bytesRow ⟨(s.den Γ ρ).asStr.toArray⟩ (grownCap w (⟨(s.den Γ ρ).asStr.toArray⟩ : ByteArray).size 0 e)).size, (bytesRow ⟨(s.den Γ ρ).asStr.toArray⟩ (grownCap w (⟨(s.den Γ ρ).asStr.toArray⟩ : ByteArray).size 0 e)).size + 1))) G B)
          false [.int .u8] ((mk1 .bytesOf s).den Γ ρ) w.heap.size 0 (grownCap w (⟨(s.den Γ ρ).asStr.toArray⟩ : ByteArray).size 0 e) _ _ _ (fun i _ => .int .u8 (((s.den Γ ρ).asStr.getD i 0).toNat : Int)) ⟨by rw [heap_alloc]; exact if_pos rfl, fun hG => by have := r.gs _ hG; omega, r.base⟩ (by rw [hlen]; exact hge) hmx
          (fun i hi c hc => by
            rw [hlen, hsz] at hi
            have hc0 : c = 0 := by simpa using hc
            subst hc0
            rw [Nat.zero_add, Nat.add_zero, List.length_singleton, Nat.mul_one, bytesRow_at _ _ i (by simpa using hi)]
            simp [hi])
          (fun i hi c hc => by
            have hi2 := hi
            rw [hlen, hsz] at hi2
            have hc0 : c = 0 := by simpa using hc
            subst hc0
            have : ((mk1 .bytesOf s).den Γ ρ).asList[i] = TV.int (((s.den Γ ρ).asStr.getD i 0).toNat : Int) := by
              simp only [hden, List.getElem_map]
              simp [hi2]
            simp only [elemCell, List.getElem_cons_zero, this]
            exact .int .u8 (TV.int _))
        rw [hlen] at hT
        exact hT
      · split at h
        · rename_i he
          have he := isIntT_eq he
          simp only [Option.some.injEq] at h
          subst h
          have hq1 := le_den (holds_one hq)
          rw [slen_den] at hq1
          have hq1 : ((s.den Γ ρ).asStr.length : Int) ≤ 1099511627776 := hq1
          have hsz : (⟨(s.den Γ ρ).asStr.toArray⟩ : ByteArray).size = (s.den Γ ρ).asStr.length := bytes_size _
          have hcnt := size_runesFrom ⟨(s.den Γ ρ).asStr.toArray⟩ (⟨(s.den Γ ρ).asStr.toArray⟩ : ByteArray).size 0 #[]
          simp only [Array.size_empty, Nat.zero_add] at hcnt
          rw [run_runes_of_string w src dst e _ hs hd he (by omega)]
          have hge := grownCap_ge w (Conv.runesFrom ⟨(s.den Γ ρ).asStr.toArray⟩ (⟨(s.den Γ ρ).asStr.toArray⟩ : ByteArray).size 0 #[]).size 0 e
          have hmx := grownCap_le_maxLen w (Conv.runesFrom ⟨(s.den Γ ρ).asStr.toArray⟩ (⟨(s.den Γ ρ).asStr.toArray⟩ : ByteArray).size 0 #[]).size 0 e (by unfold maxLen; omega)
          have hden : (((mk1 .runesOf s).den Γ ρ)).asList = runeList (s.den Γ ρ).asStr := by rw [mk1_den]; rfl
          have hcells := runes_cells (s.den Γ ρ).asStr
          rw [hsz] at *
          have hlen : (Conv.runesFrom ⟨(s.den Γ ρ).asStr.toArray⟩ (s.den Γ ρ).asStr.length 0 #[]).size = (runeList (s.den Γ ρ).asStr).length := by
            have := congrArg List.length hcells
            simpa using this
          refine done_row (P := P) (xs := (runeList (s.den Γ ρ).asStr).map fun t => .int .i32 t.asInt) r (.refl r) (w1 := w.drew) rfl rfl rfl rfl (by rw [hden]; exact hlen) (by rw [hden]; exact RowT.of_ints) hge hmx ?_ ?_
          · simp only [Array.size_append, Array.size_replicate, List.length_singleton, Nat.mul_one]
            omega
          · rw [Array.toList_append, List.length_singleton, Nat.mul_one, List.take_append_of_le_length (by simp), List.take_of_length_le (by simp), hcells]
        · cases h
    · cases h
  · cases h

/-! ### All operations -/
def sopW (P : Program) (gt : GT) (st : SS) (o : Op) : Option Out := match o with
  | .alloc t => match zeroP P t with
    | some z => some (newBox st t z)
    | none => none
  | .box t x => match (ev gt st x).cells with
    | some cs => some (newBox st t cs)
    | none => none
  | .buildSlice t n parts => sBuildSlice P gt st t n parts.toList
  | .store t p x => match ev gt st p with
    | .sc s => sStore P st t s (ev gt st x)
    | _ => none
  | .convert src dst x => match ev gt st x with
    | .sc s => sConvW P st src dst s
    | _ => none
  | .makeSlice t l c => match ev gt st l, ev gt st c with
    | .sc a, .sc b => sMake P st t a b
    | _, _ => none
  | .call ⟨.builtin .append, ⟨[x, y]⟩, ⟨[t, t2]⟩⟩ => match ev gt st x, ev gt st y with
    | .sc a, .sc b => sAppend P st t t2 a b
    | _, _ => none
  | _ => none
def sop (P : Program) (gt : GT) (st : SS) (o : Op) : Option Out := match sopR P gt st o with
  | some (req, val) => some ⟨req, val, st.heap, false⟩
  | none => sopW P gt st o

def OpDone (P : Program) (Γ : CEnv) (gt : GT) (ρ : List TV) (B : Nat) (st : SS) (vss : List (Array Value)) (w : World) (out : Out) (res : Result Next) : Prop :=
  ∃ n v as' G' w', res = .ok n w' ∧ (n = .value v ∨ (n = .skip ∧ v = undef)) ∧ Rel Γ gt ρ B G' { st with heap := out.heap } as' vss w' ∧ RepV Γ ρ out.heap as' (stable w' G') (fresh w' G' B) out.val v ∧ Below B w w' ∧ (out.wr = false → Below w.heap.size w w')
theorem OpDone.of {out : Out} {sem : Sem Value} (h : Done P Γ gt ρ B st vss w out (sem.run P w)) : OpDone P Γ gt ρ B st vss w out ((do pure (Next.value (← sem)) : Sem Next).run P w) := by
  obtain ⟨v, as', G', w', h1, h2⟩ := h
  exact ⟨.value v, v, as', G', w', run_v h1, .inl rfl, h2⟩
theorem sop_sound {a : Act} {o : Oper} (r : Rel Γ gt ρ B G st as (a.tmps :: vss) w) {out : Out} (h : sop P gt st o.op = some out) (hq : Holds Γ ρ out.req) : OpDone P Γ gt ρ B st (a.tmps :: vss) w out ((execOp a.eval o).run P w) := by
  have hev := fun x => ev_rep r x
  unfold sop at h
  split at h
  · rename_i req val hR
    simp only [Option.some.injEq] at h
    subst h
    obtain ⟨v, h1, _, h2⟩ := sopR_sound r hR hq
    exact ⟨_, v, as, G, w, h1, .inl rfl, r, h2, Below.refl _ _, fun _ => Below.refl _ _⟩
  · unfold sopW at h
    unfold execOp
    split at h
    · rename_i t ho
      rw [ho]
      split at h
      · rename_i z hz
        simp only [Option.some.injEq] at h
        subst h
        refine OpDone.of ?_
        unfold zeroP at hz
        cases hi : P.info? t with
        | none => rw [hi] at hz; cases hz
        | some it =>
          rw [hi] at hz
          simp only [Option.bind_some] at hz
          cases hz0 : it.zero with
          | none => rw [hz0] at hz; cases hz
          | some zv =>
            rw [hz0] at hz
            simp only [Option.map_some, Option.some.injEq] at hz
            subst hz
            have hzv : (zeroValue t).run P w = .ok zv w := by simp [zeroValue, typeInfo, hi, hz0]
            have := done_box (P := P) r t (RepCs_ofConst (Γ := Γ) (ρ := ρ) st.heap as (stable w G) (fresh w G B) zv.cells.toList)
            have hrun : (Instr.alloc t true (.tuple #[])).run P w = .ok (.pointer (some ⟨w.heap.size, 0, none⟩)) (w.alloc (.cells zv.cells t)) := by
              simp only [Instr.alloc, Sem.run_bind, hzv, Result.andThen_ok, newVar, Go.newRow, run_newObj, Sem.run_pure]
              rfl
            rw [hrun]
            exact this
      · cases h
    · rename_i t x ho
      rw [ho]
      split at h
      · rename_i cs hc
        simp only [Option.some.injEq] at h
        subst h
        refine OpDone.of ?_
        have := done_box (P := P) r t (cells_rep hc (hev x))
        have hrun : (Instr.box t (a.eval x)).run P w = .ok (.pointer (some ⟨w.heap.size, 0, none⟩)) (w.alloc (.cells (a.eval x).cells t)) := by
          simp only [Instr.box, Sem.run_bind, newVar, Go.newRow, run_newObj, Sem.run_pure, Result.andThen_ok]
          rfl
        rw [hrun]
        exact this
      · cases h
    · rename_i t n parts ho
      rw [ho]
      exact OpDone.of (sBuildSlice_sound r h)
    · rename_i t p x ho
      rw [ho]
      split at h
      · rename_i s hs
        have h1 := hev p
        rw [hs] at h1
        obtain ⟨as', G', w', k1, k2, k3, k4, k5⟩ := sStore_sound r h h1 (hev x)
        refine ⟨.skip, undef, as', G', w', ?_, .inr ⟨rfl, rfl⟩, k2, by rw [k3]; exact trivial, k4, fun h => by rw [k5] at h; cases h⟩
        simp only [Sem.run_bind, k1, Result.andThen_ok, Sem.run_pure]
      · cases h
    · rename_i src dst x ho
      rw [ho]
      split at h
      · rename_i s hs
        have h1 := hev x
        rw [hs] at h1
        exact OpDone.of (sConvW_sound r h h1 hq)
      · cases h
    · rename_i t l c ho
      rw [ho]
      split at h
      · rename_i s1 s2 e1 e2
        have h1 := hev l
        have h2 := hev c
        rw [e1] at h1
        rw [e2] at h2
        exact OpDone.of (sMake_sound r h h1 h2 hq)
      · cases h
    · rename_i x y t t2 ho
      rw [ho]
      split at h
      · rename_i s1 s2 e1 e2
        have h1 := hev x
        have h2 := hev y
        rw [e1] at h1
        rw [e2] at h2
        have := (sAppend_sound (ty := o.type) r h h1 h2 hq).1
        have hh := OpDone.of this
        have e : (do let d ← resolve a.eval ⟨.builtin .append, ⟨[x, y]⟩, ⟨[t, t2]⟩⟩ o.type; invoke d.target d.args : Sem Next).run P w = (do pure (Next.value (← Builtin.append_ #[t, t2] o.type #[a.eval x, a.eval y])) : Sem Next).run P w := by
          simp only [resolve, invoke, builtin, Sem.run_bind, Sem.run_pure, Result.andThen_ok, List.map_toArray, List.map_cons, List.map_nil]
        dsimp only
        rw [e]
        exact hh
      · cases h
    · cases h

/-! ### A slot is written -/
def SS.put (st : SS) (dst : Option Tmp) (v : SV) : SS := match dst, st.frames with
  | some d, f :: fs => { st with frames := f.set d v :: fs }
  | _, _ => st
theorem Rel.put {a : Act} (r : Rel Γ gt ρ B G st as (a.tmps :: vss) w) (dst : Option Tmp) {s : SV} {v : Value} (h : RepV Γ ρ st.heap as (stable w G) (fresh w G B) s v) : Rel Γ gt ρ B G (st.put dst s) as ((a.put dst v).tmps :: vss) w := by
  cases dst with
  | none => exact r
  | some d =>
    unfold SS.put Act.put
    cases hf : st.frames with
    | nil => have := r.frames.1; rw [hf] at this; simp at this
    | cons f fs =>
      have hfr := r.frames
      rw [hf] at hfr
      refine ⟨r.nv, ?_, r.alen, r.blks, r.own, r.dist, r.base, r.gs, r.globs⟩
      refine All2.cons ?_ (by simpa using hfr.drop 1)
      have h0 := hfr.2 0 f a.tmps rfl rfl
      rw [Array.toList_setIfInBounds]
      exact h0.set d h
end
end Go.Proofs.YtccpepheooleoaaDoor
