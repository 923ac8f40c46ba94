/- Symbolic runs, part e: the operations that leave memory as it is. -/
import Derived.Test.YtccpepheooleoaaDoorSd
namespace Go.Proofs.YtccpepheooleoaaDoor
set_option linter.unusedSimpArgs false
set_option linter.unusedVariables false
set_option linter.unusedSectionVars false
open Go.RowKit

section
variable {Γ : CEnv} {gt : GT} {ρ : List TV} {B : Nat} {G : Nat → Prop} {st : SS} {as : List Value} {vss : List (Array Value)} {w : World} {P : Program}

/-- A cell that surely is one. -/
def SC.one : SC → Bool
  | .undef => false
  | .lit u => u.oneCell'
  | _ => true
theorem RepT.one {M : Mem} {ct : CT} {t : TV} {v : Value} (h : RepT M ct t v) : v.oneCell' = true := by cases h <;> rfl
theorem RepC.one {hp : List Blk} {as : List Value} {M Mf : Mem} {s : SC} {v : Value} (h : RepC Γ ρ hp as M Mf s v) (ho : s.one = true) : v.oneCell' = true := by
  cases s with
  | undef => cases ho
  | int k e => rw [h]; rfl
  | bool e => rw [h]; rfl
  | str e => rw [h]; rfl
  | nil => rw [h]; rfl
  | imm fr ag cs e => exact RepT.one h
  | own b ver => exact h.1
  | sub b ver lo hi => exact h.1
  | ptr b ver i c => exact h.1
  | pel fr ag cs e i c => obtain ⟨g, off, cap, _, _, _, h⟩ := h; rw [h]; rfl
  | fn f caps => obtain ⟨vs, h, _⟩ := h; rw [h]; rfl
  | lit u => rw [show v = u from h]; exact ho
theorem cells_one {v : Value} (h : v.oneCell' = true) : v.cells = #[v] := by
  cases v <;> first | rfl | (simp [Value.oneCell'] at h)

/-- The cells of a value. -/
def SV.cells : SV → Option (List SC)
  | .sc s => if s.one then some [s] else none
  | .agg cs => some cs
  | .tup _ => none
theorem cells_rep {hp : List Blk} {as : List Value} {M Mf : Mem} {s : SV} {cs : List SC} {v : Value} (h : s.cells = some cs) (r : RepV Γ ρ hp as M Mf s v) : RepCs Γ ρ hp as M Mf cs v.cells.toList := by
  cases s with
  | sc s =>
    simp only [SV.cells] at h
    split at h
    · rename_i ho
      simp only [Option.some.injEq] at h
      subst h
      rw [cells_one (RepC.one r ho)]
      exact All2.cons r All2.nil
    · cases h
  | agg cs' =>
    simp only [SV.cells, Option.some.injEq] at h
    subst h
    obtain ⟨vs, rfl, h2⟩ := r
    exact h2
  | tup _ => cases h

/-! ### Building -/
def sSplice (cells v : List SC) (off : Nat) : List SC := cells.take off ++ (v ++ cells.drop (off + v.length))
def sFill (place : Nat → Option (Nat × Nat)) (cells : List SC) : List (Nat × List SC) → Option (List SC)
  | [] => some cells
  | (i, v) :: rest => match place i with
    | none => none
    | some (off, size) => if Nat.beq v.length size && Nat.ble (off + v.length) cells.length then sFill place (sSplice cells v off) rest else none

theorem fold_set (off : Nat) : ∀ (v : List Value) (j : Nat) (cs : Array Value), off + j + v.length ≤ cs.size →
    ((v.zipIdx j).foldl (fun cs (x : Value × Nat) => cs.setIfInBounds (off + x.2) x.1) cs).toList = cs.toList.take (off + j) ++ (v ++ cs.toList.drop (off + j + v.length))
  | [], j, cs, h => by simp
  | x :: v, j, cs, h => by
    simp only [List.length_cons] at h
    simp only [List.zipIdx_cons, List.foldl_cons]
    rw [fold_set off v (j + 1) _ (by simp; omega)]
    simp only [Array.toList_setIfInBounds, List.length_cons]
    have hlt : off + j < cs.toList.length := by simp; omega
    rw [show off + (j + 1) = off + j + 1 by omega, List.take_succ_eq_append_getElem (by simpa using hlt), List.take_set_of_le (Nat.le_refl _), List.getElem_set_self, List.drop_set_of_lt (by omega)]
    rw [show off + j + 1 + v.length = off + j + (v.length + 1) by omega]
    simp
theorem sFill_rep {hl : List Blk} {as : List Value} {M Mf : Mem} {place : Nat → Option (Nat × Nat)} : ∀ {parts : List (Nat × List SC)} {vals : List (Nat × Value)} {cells : List SC} {cur : Array Value} {out : List SC},
    sFill place cells parts = some out → All2 (fun (x : Nat × List SC) (y : Nat × Value) => x.1 = y.1 ∧ RepCs Γ ρ hl as M Mf x.2 y.2.cells.toList) parts vals → RepCs Γ ρ hl as M Mf cells cur.toList →
    ∃ res, Instr.fill place cur vals = some res ∧ RepCs Γ ρ hl as M Mf out res.toList
  | [], vals, cells, cur, out, h, hp, hc => by
    simp only [sFill, Option.some.injEq] at h
    subst h
    have : vals = [] := List.eq_nil_of_length_eq_zero hp.1.symm
    subst this
    exact ⟨cur, rfl, hc⟩
  | (i, v) :: rest, vals, cells, cur, out, h, hp, hc => by
    cases vals with
    | nil => have := hp.1; simp at this
    | cons y vals =>
      obtain ⟨i', u⟩ := y
      obtain ⟨e1, e2⟩ := hp.2 0 _ _ rfl rfl
      dsimp only at e1 e2
      subst e1
      have hrest : All2 (fun (x : Nat × List SC) (y : Nat × Value) => x.1 = y.1 ∧ RepCs Γ ρ hl as M Mf x.2 y.2.cells.toList) rest vals := by have := hp.drop 1; simpa using this
      simp only [sFill] at h
      simp only [Instr.fill]
      cases hpl : place i with
      | none => rw [hpl] at h; cases h
      | some x =>
        obtain ⟨off, size⟩ := x
        rw [hpl] at h
        dsimp only at h ⊢
        split at h
        · rename_i hcond
          simp only [Bool.and_eq_true, Nat.beq_eq, Nat.ble_eq] at hcond
          have hl1 : u.cells.size = v.length := by have := e2.1; simp at this; omega
          have hl2 : cur.size = cells.length := by have := hc.1; simp at this; omega
          rw [if_neg (by simp only [ne_eq, Bool.or_eq_true, decide_eq_true_eq, not_or]; exact ⟨by rw [hl1]; simp [hcond.1], by omega⟩)]
          refine sFill_rep h hrest ?_
          have hf := fold_set off u.cells.toList 0 cur (by simp; omega)
          have e3 : (u.cells.zipIdx.foldl (fun cs (x : Value × Nat) => cs.setIfInBounds (off + x.2) x.1) cur).toList = cur.toList.take off ++ (u.cells.toList ++ cur.toList.drop (off + u.cells.toList.length)) := by
            rw [← Array.foldl_toList, Array.toList_zipIdx]
            simpa using hf
          have e4 : (u.cells.zipIdx.foldl (fun cs (x : Value × Nat) => match x with | (c, j) => cs.setIfInBounds (off + j) c) cur) = (u.cells.zipIdx.foldl (fun cs (x : Value × Nat) => cs.setIfInBounds (off + x.2) x.1) cur) := rfl
          rw [e4, e3]
          have e5 : u.cells.toList.length = v.length := e2.1.symm
          rw [e5]
          exact (hc.take off).append (e2.append (hc.drop _))
        · cases h

def partsOf (gt : GT) (st : SS) : List (Nat × Operand) → Option (List (Nat × List SC))
  | [] => some []
  | (i, x) :: r => match (ev gt st x).cells, partsOf gt st r with
    | some cs, some l => some ((i, cs) :: l)
    | _, _ => none
theorem partsOf_rep {a : Act} (r : Rel Γ gt ρ B G st as (a.tmps :: vss) w) : ∀ {ps : List (Nat × Operand)} {l : List (Nat × List SC)}, partsOf gt st ps = some l →
    All2 (fun (x : Nat × List SC) (y : Nat × Value) => x.1 = y.1 ∧ RepCs Γ ρ st.heap as (stable w G) (fresh w G B) x.2 y.2.cells.toList) l (ps.map fun (i, x) => (i, a.eval x))
  | [], l, h => by simp only [partsOf, Option.some.injEq] at h; subst h; exact All2.nil
  | (i, x) :: ps, l, h => by
    simp only [partsOf] at h
    split at h
    · rename_i cs l' h1 h2
      simp only [Option.some.injEq] at h
      subst h
      exact All2.cons ⟨rfl, cells_rep h1 (ev_rep r x)⟩ (partsOf_rep r h2)
    · cases h

def zeroP (P : Program) (t : TypeId) : Option (List SC) := ((P.info? t).bind (·.zero)).map fun z => z.cells.toList.map ofConst
def sBuilt (P : Program) (t : TypeId) (parts : List (Nat × List SC)) : Option (List SC) := match zeroP P t, P.underlying t with
  | some z, some (.struct fields) => match fields.toList.mapM (fun f => (P.info? f.type).map fun i => (f.offset, i.size)) with
    | some places => sFill (places.toArray[·]?) z parts
    | none => none
  | _, _ => none
theorem RepCs_ofConst (hp : List Blk) (as : List Value) (M Mf : Mem) (l : List Value) : RepCs Γ ρ hp as M Mf (l.map ofConst) l :=
  ⟨by simp, fun i x y hx hy => by
    rw [List.getElem?_map, hy] at hx
    simp only [Option.map_some, Option.some.injEq] at hx
    rw [← hx]
    exact RepC_ofConst _ _ _ _ y⟩
theorem sBuilt_sound {hp : List Blk} {as : List Value} {M Mf : Mem} {t : TypeId} {parts : List (Nat × List SC)} {vals : Array (Nat × Value)} {out : List SC} (h : sBuilt P t parts = some out)
    (hr : All2 (fun (x : Nat × List SC) (y : Nat × Value) => x.1 = y.1 ∧ RepCs Γ ρ hp as M Mf x.2 y.2.cells.toList) parts vals.toList) :
    ∃ cells, (∀ w : World, (Instr.build t vals).run P w = .ok (.agg cells) w) ∧ RepCs Γ ρ hp as M Mf out cells.toList := by
  unfold sBuilt zeroP at h
  cases hi : P.info? t with
  | none => rw [hi] at h; cases h
  | some it =>
    rw [hi] at h
    simp only [Option.bind_some] at h
    cases hz : it.zero with
    | none => rw [hz] at h; cases h
    | some z =>
      rw [hz] at h
      simp only [Option.map_some] at h
      split at h
      · rename_i z' fields e1 hu
        simp only [Option.some.injEq] at e1
        subst e1
        split at h
        · rename_i places hpl
          obtain ⟨res, k1, k2⟩ := sFill_rep h hr (RepCs_ofConst hp as M Mf z.cells.toList)
          refine ⟨res, fun w => run_build w t vals res ?_, k2⟩
          unfold Program.built
          simp only [hi, hu, hz, hpl]
          exact k1
        · cases h
      · cases h

/-! ### Loads -/
def sLoad (P : Program) (st : SS) (t : TypeId) (x : SC) : Option SV := match cellsAt st.heap x, aggP P t, sizeP P t with
  | some cells, some true, some n => if Nat.ble n cells.length then some (.agg (cells.take n)) else none
  | some cells, some false, _ => match cells with
    | s :: _ => some (.sc s)
    | [] => none
  | _, _, _ => none
theorem sLoad_sound (r : Rel Γ gt ρ B G st as vss w) {t : TypeId} {x : SC} {v : Value} {out : SV} (h : sLoad P st t x = some out) (hx : RepC Γ ρ st.heap as (stable w G) (fresh w G B) x v) :
    ∃ u, (∀ w2 : World, Below w.heap.size w w2 → (Instr.loadAt t v).run P w2 = .ok u w2) ∧ RepV Γ ρ st.heap as (stable w G) (fresh w G B) out u := by
  unfold sLoad at h
  split at h
  · rename_i cells n h1 h2 h3
    split at h
    · rename_i hn
      simp only [Nat.ble_eq] at hn
      simp only [Option.some.injEq] at h
      subst h
      obtain ⟨g, o, rfl, hc⟩ := cellsAt_reads r h1 hx
      have hcs : ∀ j, j < n → ∃ u, w.cell? ⟨g, o + j, none⟩ = some u ∧ ∀ t, cells[j]? = some t → RepC Γ ρ st.heap as (stable w G) (fresh w G B) t u := by
        intro j hj
        obtain ⟨u, k1, k2⟩ := hc j cells[j] (List.getElem?_eq_getElem (by omega))
        exact ⟨u, k1, fun t ht => by rw [List.getElem?_eq_getElem (by omega)] at ht; injection ht with ht; rw [← ht]; exact k2⟩
      refine ⟨.agg ((List.range n).map fun j => (w.cell? ⟨g, o + j, none⟩).getD undef).toArray, fun w2 hb => ?_, _, rfl, ?_⟩
      · have hrun := run_loadCells (P := P) w2 ⟨g, o, none⟩ n (fun j => (w.cell? ⟨g, o + j, none⟩).getD undef) (fun j hj => by
          obtain ⟨u, k1, _⟩ := hcs j hj
          rw [Addr.add_lit, hb.cell (p := ⟨g, o + j, none⟩) (World.block_lt_of_cell? w _ k1), k1]; rfl)
        simp only [Instr.loadAt, Instr.sureAddr, loadVar, Sem.run_bind, Sem.run_pure, Result.andThen_ok, run_isAgg h2, if_true, run_sizeOf h3, hrun]
      · refine ⟨by simp; omega, fun i s u hs hu => ?_⟩
        rw [List.getElem?_take] at hs
        split at hs
        · rename_i hi
          obtain ⟨u', k1, k2⟩ := hcs i hi
          simp only [List.getElem?_map, List.getElem?_range hi, Option.map_some, Option.some.injEq, k1, Option.getD_some] at hu
          rw [← hu]
          exact k2 s hs
        · cases hs
    · cases h
  · rename_i cells x1 h1 h2
    split at h
    · rename_i s rest
      simp only [Option.some.injEq] at h
      subst h
      obtain ⟨g, o, rfl, hc⟩ := cellsAt_reads r h1 hx
      obtain ⟨u, k1, k2⟩ := hc 0 s rfl
      refine ⟨u, fun w2 hb => ?_, k2⟩
      rw [Nat.add_zero] at k1
      have k1 : w2.cell? ⟨g, o, none⟩ = some u := (hb.cell (p := ⟨g, o, none⟩) (World.block_lt_of_cell? w _ k1)).trans k1
      simp only [Instr.loadAt, Instr.sureAddr, loadVar, Sem.run_bind, Sem.run_pure, Result.andThen_ok, run_isAgg h2, Bool.false_eq_true, if_false, run_load, k1]
    · cases h
  · cases h

/-! ### Addresses -/
def fieldP (P : Program) (s : TypeId) (f : Nat) : Option Nat := match P.underlying s with
  | some (.struct fs) => match fs[f]? with
    | some fd => match sizeP P fd.type with
      | some 0 => none
      | some _ => some fd.offset
      | none => none
    | none => none
  | _ => none
theorem run_fieldAt {s : TypeId} {f off : Nat} (h : fieldP P s f = some off) (g o : Nat) : (Instr.fieldAt s (.pointer (some ⟨g, o, none⟩)) f).run P w = .ok (.pointer (some ⟨g, o + off, none⟩)) w := by
  unfold fieldP at h
  split at h
  · rename_i fs hu
    split at h
    · rename_i fd hf
      split at h
      · cases h
      · rename_i n hn hs
        simp only [Option.some.injEq] at h
        subst h
        have hne : n ≠ 0 := fun e => hn e
        simp only [Instr.fieldAt, Sem.run_bind, run_underlying hu, Result.andThen_ok, hf, Instr.sureAddr, Sem.run_pure, fieldPlace, run_sizeOf hs, if_neg hne, Addr.add_lit]
      · cases h
    · cases h
  · cases h
def sField (P : Program) (s : TypeId) (f : Nat) (x : SC) : Option SC := match fieldP P s f, x with
  | some off, .ptr b ver i c => some (.ptr b ver i (c + off))
  | some off, .pel fr ag cs e i c => some (.pel fr ag cs e i (c + off))
  | _, _ => none
/-- A pointer to a place that is known. -/
def SC.cur (hp : List Blk) : SC → Bool
  | .ptr b ver _ _ => match hp[b]? with
    | some blk => Nat.beq blk.ver ver
    | none => false
  | .own b ver => match hp[b]? with
    | some blk => Nat.beq blk.ver ver
    | none => false
  | .sub b ver _ _ => match hp[b]? with
    | some blk => Nat.beq blk.ver ver
    | none => false
  | _ => true
theorem sField_sound {hp : List Blk} {as : List Value} {M Mf : Mem} {s : TypeId} {f : Nat} {x y : SC} {v : Value} (h : sField P s f x = some y) (hcur : x.cur hp = true) (hx : RepC Γ ρ hp as M Mf x v) :
    ∃ u, (∀ w : World, (Instr.fieldAt s v f).run P w = .ok u w) ∧ RepC Γ ρ hp as M Mf y u := by
  unfold sField at h
  split at h
  · rename_i off b ver i c hf
    simp only [Option.some.injEq] at h
    subst h
    obtain ⟨_, blk, va, h1, h2, h3, h4⟩ := hx
    simp only [SC.cur, h1] at hcur
    obtain ⟨n, g, k1, k2, k3, k4, k5⟩ := h4 (Nat.eq_of_beq_eq_true hcur)
    subst k5
    exact ⟨_, fun w => run_fieldAt hf _ _, rfl, blk, va, h1, h2, h3, fun _ => ⟨n, g, k1, k2, k3, k4, by rw [Nat.add_assoc]⟩⟩
  · rename_i off fr ag cs e i c hf
    simp only [Option.some.injEq] at h
    subst h
    obtain ⟨g, off', cap, h1, h2, h3, h4⟩ := hx
    subst h4
    exact ⟨_, fun w => run_fieldAt hf _ _, g, off', cap, h1, h2, h3, by simp only [Nat.add_assoc]⟩
  · cases h

def sizeB (P : Program) (e : TypeId) (n : Nat) : Bool := match sizeP P e with
  | some m => Nat.beq m n
  | none => false
theorem sizeB_eq {e : TypeId} {n : Nat} (h : sizeB P e n = true) : sizeP P e = some n := by
  unfold sizeB at h
  split at h
  · rename_i m hm; rw [hm, Nat.eq_of_beq_eq_true h]
  · cases h
def rng (i lo hi : E) : List E := [mk2 .lei lo i, mk2 .lti i hi]
theorem rng_holds {i lo hi : E} {Γ : CEnv} {ρ : List TV} (h : Holds Γ ρ (rng i lo hi)) : (lo.den Γ ρ).asInt ≤ (i.den Γ ρ).asInt ∧ (i.den Γ ρ).asInt < (hi.den Γ ρ).asInt := by
  have h1 := h _ (List.mem_cons_self)
  have h2 := h (mk2 .lti i hi) (by simp [rng])
  rw [mk2_den] at h1 h2
  exact ⟨of_decide_eq_true h1, of_decide_eq_true h2⟩
def sIndexAddr (P : Program) (st : SS) (t : TypeId) (x ix : SC) : Option (List E × SC) := match ix, P.underlying t with
  | .int k i, some (.slice e) => match x with
    | .own b ver => match st.heap[b]? with
      | some blk => match blk.cont with
        | .row c => if Nat.beq blk.ver ver && sizeB P e blk.cs.length then some (rng i (.int 0) (mk1 .len c), .ptr b ver i 0) else none
        | _ => none
      | none => none
    | .imm fr ag cs c => if sizeB P e cs.length then some (rng i (.int 0) (mk1 .len c), .pel fr ag cs c i 0) else none
    | _ => none
  | .int k i, some (.array n e) => match x with
    | .pel fr ag cs c (.int 0) 0 => if sizeB P e cs.length then some (mk2 .lei (.int n) (mk1 .len c) :: rng i (.int 0) (.int n), .pel fr ag cs c i 0) else none
    | _ => none
  | _, _ => none
theorem run_indexAt_slice' {t e : TypeId} {n : Nat} (hu : P.underlying t = some (.slice e)) (hs : sizeP P e = some n) (g o len cap : Nat) (k : IntKind) (i : Int) (h0 : 0 ≤ i) (h1 : i < len) :
    (Instr.indexAt t (.slice (some ⟨g, o, none⟩) len cap) (.int k i)).run P w = .ok (.pointer (some ⟨g, o + i.toNat * n, none⟩)) w := by
  simp only [Instr.indexAt, asIntOf, Sem.run_bind, Sem.run_pure, Result.andThen_ok, run_underlying hu, if_pos (And.intro h0 h1), run_sizeOf hs, Addr.add_lit]
theorem run_indexAt_array' {t e : TypeId} {m n : Nat} (hu : P.underlying t = some (.array m e)) (hs : sizeP P e = some n) (g o : Nat) (k : IntKind) (i : Int) (h0 : 0 ≤ i) (h1 : i < m) :
    (Instr.indexAt t (.pointer (some ⟨g, o, none⟩)) (.int k i)).run P w = .ok (.pointer (some ⟨g, o + i.toNat * n, none⟩)) w := by
  simp only [Instr.indexAt, Instr.sureAddr, asIntOf, Sem.run_bind, Sem.run_pure, Result.andThen_ok, run_underlying hu, if_pos (And.intro h0 h1), run_sizeOf hs, Addr.add_lit]
theorem len_den {e : E} : ((mk1 .len e).den Γ ρ).asInt = (e.den Γ ρ).asList.length := by rw [mk1_den]; rfl
theorem sIndexAddr_sound (r : Rel Γ gt ρ B G st as vss w) {t : TypeId} {x ix y : SC} {req : List E} {v vi : Value} (h : sIndexAddr P st t x ix = some (req, y)) (hx : RepC Γ ρ st.heap as (stable w G) (fresh w G B) x v)
    (hi : RepC Γ ρ st.heap as (stable w G) (fresh w G B) ix vi) (hq : Holds Γ ρ req) : ∃ u, (∀ w : World, (Instr.indexAt t v vi).run P w = .ok u w) ∧ RepC Γ ρ st.heap as (stable w G) (fresh w G B) y u := by
  unfold sIndexAddr at h
  split at h
  · rename_i k i e hu
    simp only [RepC] at hi
    subst hi
    split at h
    · rename_i b ver
      split at h
      · rename_i blk hb
        split at h
        · rename_i c hc
          split at h
          · rename_i hcond
            simp only [Bool.and_eq_true] at hcond
            simp only [Option.some.injEq, Prod.mk.injEq] at h
            obtain ⟨rfl, rfl⟩ := h
            have hr := rng_holds hq
            rw [len_den] at hr
            simp only [E.den, asInt_int] at hr
            obtain ⟨ho, blk', va, h1, h2, h3, h4⟩ := hx
            rw [hb] at h1
            injection h1 with h1
            subst h1
            obtain ⟨rfl, _⟩ := h4 (Nat.eq_of_beq_eq_true hcond.1)
            have hread := rowOf_reads r (s := .own b ver) (row := ⟨blk.fr, blk.ag, blk.cs, c⟩) (by simp only [rowOf, hb, hcond.1, if_true, hc]) ⟨ho, blk, _, hb, h2, h3, h4⟩
            have hhead : HeadOrNil v := by
              have hbr := r.blks b blk v hb h2
              unfold BlkRel at hbr
              rw [hc] at hbr
              dsimp only at hbr
              split at hbr
              · obtain ⟨xs, q1, q2⟩ := hbr; exact (Reads.of_own q1 q2).2
              · exact hbr.2
            obtain ⟨a, cap, xs, e0, l1, l2, l3, _⟩ := hread
            dsimp only at e0 l1
            rcases hhead with hh | ⟨g, l, cc, hh⟩
            · rw [hh] at e0
              injection e0 with e1 e2
              omega
            · rw [hh] at e0
              injection e0 with e1 e2 e3
              rw [hh, e2]
              refine ⟨_, fun w => run_indexAt_slice' hu (sizeB_eq hcond.2) g 0 _ _ k _ hr.1 hr.2, rfl, blk, v, hb, h2, h3, fun _ => ⟨_, g, by simp only [Blk.len, hc], hr.1, hr.2, by rw [hh]; rfl, ?_⟩⟩
              simp only [Blk.size, hc, Nat.zero_add, Nat.add_zero]
          · cases h
        · cases h
      · cases h
    · rename_i fr ag cs c
      split at h
      · rename_i hcond
        simp only [Option.some.injEq, Prod.mk.injEq] at h
        obtain ⟨rfl, rfl⟩ := h
        have hr := rng_holds hq
        rw [len_den] at hr
        simp only [E.den, asInt_int] at hr
        have hx0 : RepT (pick (stable w G) (fresh w G B) fr) (.slice ag cs) (c.den Γ ρ) v := hx
        cases hx with
        | empty ag cs t' a cap hl hn hm => rw [hl] at hr; simp at hr; omega
        | slice ag cs t' g off cap cur el fr' vals hM hcap hmax hc' hr' =>
          refine ⟨_, fun w => run_indexAt_slice' hu (sizeB_eq hcond) g off _ _ k _ hr.1 hr.2, g, off, cap, hx0, hr.1, hr.2, by rw [Nat.add_zero]⟩
      · cases h
    · cases h
  · rename_i k i n e hu
    simp only [RepC] at hi
    subst hi
    split at h
    · rename_i fr ag cs c
      split at h
      · rename_i hcond
        simp only [Option.some.injEq, Prod.mk.injEq] at h
        obtain ⟨rfl, rfl⟩ := h
        have hq1 := hq _ (List.mem_cons_self)
        have hr := rng_holds (i := i) (lo := .int 0) (hi := .int n) (fun x hx => hq x (List.mem_cons_of_mem _ hx))
        rw [mk2_den] at hq1
        have hq1 : (n : Int) ≤ (((mk1 .len c).den Γ ρ).asInt) := of_decide_eq_true hq1
        rw [len_den] at hq1
        simp only [E.den, asInt_int] at hr
        obtain ⟨g, off, cap, h1, h2, h3, h4⟩ := hx
        subst h4
        refine ⟨_, fun w => run_indexAt_array' hu (sizeB_eq hcond) g _ k _ hr.1 hr.2, g, off, cap, h1, hr.1, by omega, ?_⟩
        simp [E.den, TV.asInt]
      · cases h
    · cases h
  · cases h
end
end Go.Proofs.YtccpepheooleoaaDoor
