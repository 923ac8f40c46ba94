/- Symbolic runs, part j: new variables, literals of slices, and slices that are made. -/
import Derived.Test.YtccpepheooleoaaDoorSi
import Derived.Laws.MakeOwn
namespace Go.Proofs.YtccpepheooleoaaDoor
set_option linter.unusedSimpArgs false
set_option linter.unusedVariables false
set_option linter.unusedSectionVars false
open Go.RowKit

section
variable {Γ : CEnv} {gt : GT} {ρ : List TV} {B : Nat} {G : Nat → Prop} {st : SS} {as : List Value} {vss : List (Array Value)} {w : World} {P : Program}

/-! ### Boxes -/
def boxB (t : TypeId) (cs : List SC) : Blk := ⟨0, true, true, t, false, [], .box cs⟩
def newBox (st : SS) (t : TypeId) (cs : List SC) : Out := ⟨[], .sc (.ptr st.heap.length 0 (.int 0) 0), st.heap ++ [boxB t cs], false⟩
theorem below_alloc (w : World) (o : Obj) : Below w.heap.size w (w.alloc o) := (Below.refl _ _).alloc (Nat.le_refl _) o
theorem done_box (r : Rel Γ gt ρ B G st as vss w) {cs : List SC} {vals : Array Value} (t : TypeId) (h : RepCs Γ ρ st.heap as (stable w G) (fresh w G B) cs vals.toList) :
    Done P Γ gt ρ B st vss w (newBox st t cs) (.ok (.pointer (some ⟨w.heap.size, 0, none⟩)) (w.alloc (.cells vals t))) := by
  have hm := mem_alloc (B := B) (G := G) (w := w) (G' := fun g => G g ∨ g = w.heap.size) (.cells vals t) (fun g h => h)
  have tr := Tr.push Γ ρ st.heap as r.alen (boxB t cs) (.pointer (some ⟨w.heap.size, 0, none⟩))
  have hr := r.alloc (.cells vals t) (boxB t cs) (.pointer (some ⟨w.heap.size, 0, none⟩)) rfl rfl ⟨w.heap.size, vals, rfl, r.base, by rw [heap_alloc, if_pos rfl]; rfl, h.tr tr hm.1 hm.2⟩
  refine ⟨_, _, _, _, rfl, hr, ?_, (below_alloc w _).mono r.base, fun _ => below_alloc w _⟩
  refine ⟨rfl, boxB t cs, .pointer (some ⟨w.heap.size, 0, none⟩), by simp [newBox], by simp [newBox, ← r.alen], Nat.le_refl _, fun _ => ⟨1, w.heap.size, rfl, by simp [E.den, TV.asInt], by simp [E.den, TV.asInt], rfl, by simp [E.den, TV.asInt]⟩⟩

/-! ### Rows -/
def rowB (fr : Bool) (e : TypeId) (ag : Bool) (cs : List CT) (c : E) : Blk := ⟨0, true, fr, e, ag, cs, .row c⟩
def newRow (st : SS) (req : List E) (hp : List Blk) (fr : Bool) (e : TypeId) (ag : Bool) (cs : List CT) (c : E) : Out := ⟨req, .sc (.own hp.length 0), hp ++ [rowB fr e ag cs c], false⟩
theorem done_row {hp : List Blk} {G' : Nat → Prop} (r : Rel Γ gt ρ B G st as vss w) (l : Later Γ gt ρ B G st as vss w hp G') {w1 : World} (hw : w1.heap = w.heap) (hos : w1.os = w.os) (htp : w1.tape = w.tape) (hou : w1.output = w.output) {vals : Array Value} {e : TypeId} {fr ag : Bool} {cs : List CT} {c : E} {n cap : Nat} {xs : List Value} {req : List E}
    (hn : n = (c.den Γ ρ).asList.length) (hrow : RowT (pick (stable w G') (fresh w G' B) fr) ag cs (c.den Γ ρ).asList xs) (hle : n ≤ cap) (hmax : cap ≤ maxLen) (hsz : vals.size = cap * cs.length) (hx : vals.toList.take (n * cs.length) = xs) :
    Done P Γ gt ρ B st vss w (newRow st req hp fr e ag cs c) (.ok (.slice (some ⟨w.heap.size, 0, none⟩) n cap) (w1.alloc (.cells vals e))) := by
  have r1 := l.rel
  have hr1 : Rel Γ gt ρ B G' { st with heap := hp } as vss w1 := by
    have hst : stable w1 G' = stable w G' := by funext g o; simp only [stable, hw]
    have hfr : fresh w1 G' B = fresh w G' B := by funext g o; simp only [fresh, hw]
    refine ⟨r1.nv, by rw [hst, hfr]; exact r1.frames, r1.alen, fun b blk va h1 h2 => ?_, r1.own, r1.dist, by rw [hw]; exact r1.base, fun g h => by rw [hw]; exact r1.gs g h, fun g ag cs h => by rw [hst]; exact r1.globs g ag cs h⟩
    rw [hst, hfr]
    exact BlkRel.tr (Tr.refl _ _ _ _) (Mem.le.refl _) (Mem.le.refl _) (r1.blks b blk va h1 h2) fun _ g _ => by rw [hw]
  have hws : w1.heap.size = w.heap.size := by rw [hw]
  have hm := mem_alloc (B := B) (G := G') (w := w1) (G' := fun g => G' g ∨ g = w1.heap.size) (.cells vals e) (fun g h => h)
  have hst : stable w1 G' = stable w G' := by funext g o; simp only [stable, hw]
  have hfr : fresh w1 G' B = fresh w G' B := by funext g o; simp only [fresh, hw]
  have hr := hr1.alloc (.cells vals e) (rowB fr e ag cs c) (.slice (some ⟨w.heap.size, 0, none⟩) n cap) rfl (by rw [hws]; rfl) (by
    refine ⟨xs, ⟨?_, .inr ⟨w.heap.size, cap, vals, by rw [hn], r.base, by rw [heap_alloc, if_pos hws.symm]; rfl, by rw [← hn]; exact hle, hmax, hsz, by rw [← hn]; exact hx⟩⟩, ?_⟩
    · exact hrow.1
    · refine hrow.mono (pick_le ?_ ?_ _)
      · rw [← hst]; exact hm.1
      · rw [← hfr]; exact hm.2)
  have hb : Below w.heap.size w (w1.alloc (.cells vals e)) := ⟨hos, htp, hou, by show w.heap.size ≤ (w1.heap.push _).size; rw [Array.size_push, hws]; omega, fun k hk => by rw [heap_alloc, if_neg (by omega), hw]⟩
  refine ⟨_, _, _, _, rfl, hr, ?_, hb.mono r.base, fun _ => hb⟩
  refine ⟨rfl, rowB fr e ag cs c, .slice (some ⟨w.heap.size, 0, none⟩) n cap, by simp [newRow], ?_, Nat.le_refl _, fun _ => ⟨rfl, c, rfl⟩⟩
  have hal : as.length = hp.length := r1.alen
  rw [← hal, List.getElem?_append_right (Nat.le_refl _)]
  simp

/-! ### The elements of a type -/
def shapeP (P : Program) : Nat → TypeId → Option (Bool × List CT)
  | 0, _ => none
  | d + 1, t => match P.underlying t with
    | some (.int k) => some (false, [.int k])
    | some .bool => some (false, [.bool])
    | some .string => some (false, [.str])
    | some (.slice e) => match shapeP P d e with
      | some (ag, cs) => some (false, [.slice ag cs])
      | none => none
    | some (.struct fs) => match fs.toList.mapM (fun f => (shapeP P d f.type).map (·.2)) with
      | some l => some (true, l.flatten)
      | none => none
    | some (.array n e) => match shapeP P d e with
      | some (_, cs) => some (true, (List.replicate n cs).flatten)
      | none => none
    | _ => none

/-! ### Literals of slices -/
theorem RowT.cons {M : Mem} {ag : Bool} {cs : List CT} {t : TV} {ts : List TV} {xs ys : List Value} (h : CellsT M ag cs t xs) (k : RowT M ag cs ts ys) : RowT M ag cs (t :: ts) (xs ++ ys) := by
  refine ⟨by rw [List.length_append, h.1, k.1, List.length_cons, Nat.add_mul]; omega, fun i hi c hc => ?_⟩
  cases i with
  | zero =>
    obtain ⟨v, h1, h2⟩ := h.2 c hc
    exact ⟨v, by rw [Nat.zero_mul, Nat.zero_add, List.getElem?_append_left (by rw [h.1]; exact hc)]; exact h1, h2⟩
  | succ i =>
    obtain ⟨v, h1, h2⟩ := k.2 i (by simpa using hi) c hc
    refine ⟨v, ?_, h2⟩
    rw [List.getElem?_append_right (by rw [h.1, Nat.add_mul]; omega), h.1]
    rw [show (i + 1) * cs.length + c - cs.length = i * cs.length + c by rw [Nat.add_mul]; omega]
    exact h1
theorem RowT.nil {M : Mem} {ag : Bool} {cs : List CT} : RowT M ag cs [] [] := ⟨by simp, fun i hi => by simp at hi⟩
theorem CellsT.mono {M M' : Mem} (h : Mem.le M M') {ag : Bool} {cs : List CT} {t : TV} {xs : List Value} (r : CellsT M ag cs t xs) : CellsT M' ag cs t xs :=
  ⟨r.1, fun c hc => let ⟨v, a, b⟩ := r.2 c hc; ⟨v, a, b.mono h⟩⟩

def reifyRows (ag : Bool) (cts : List CT) : Nat → List SC → List Blk → Option (Bool × List E × List Blk)
  | 0, [], hp => some (true, [], hp)
  | 0, _ :: _, _ => none
  | n + 1, ss, hp => match reifyCs hp cts (ss.take cts.length) with
    | some (fr, es, hp') => match elemOfEs ag es, reifyRows ag cts n (ss.drop cts.length) hp' with
      | some e, some (fr', l, hp'') => some (fr && fr', e :: l, hp'')
      | _, _ => none
    | none => none
theorem reifyRows_sound {ag : Bool} {cts : List CT} : ∀ {n : Nat} {ss : List SC} {st : SS} {G : Nat → Prop} {fr : Bool} {es : List E} {hp' : List Blk} {vs : List Value} (r : Rel Γ gt ρ B G st as vss w) (h : reifyRows ag cts n ss st.heap = some (fr, es, hp'))
    (hs : RepCs Γ ρ st.heap as (stable w G) (fresh w G B) ss vs), ∃ G', Later Γ gt ρ B G st as vss w hp' G' ∧ es.length = n ∧ RowT (pick (stable w G') (fresh w G' B) fr) ag cts (es.map (·.den Γ ρ)) vs
  | 0, [], st, G, fr, es, hp', vs, r, h, hs => by
    simp only [reifyRows, Option.some.injEq, Prod.mk.injEq] at h
    obtain ⟨rfl, rfl, rfl⟩ := h
    have : vs = [] := List.eq_nil_of_length_eq_zero hs.1.symm
    subst this
    exact ⟨G, .refl r, rfl, RowT.nil⟩
  | 0, _ :: _, st, G, fr, es, hp', vs, r, h, hs => by simp [reifyRows] at h
  | n + 1, ss, st, G, fr, es, hp', vs, r, h, hs => by
    simp only [reifyRows] at h
    split at h
    · rename_i fr1 es1 hp1 h1
      split at h
      · rename_i e fr2 l hp2 h2 h3
        simp only [Option.some.injEq, Prod.mk.injEq] at h
        obtain ⟨rfl, rfl, rfl⟩ := h
        obtain ⟨G1, l1, a1, a2, a3⟩ := reifyCs_sound r h1 (hs.take cts.length)
        have hc := elem_cells h2 a1 a2 a3
        have hrest : RepCs Γ ρ hp1 as (stable w G1) (fresh w G1 B) (ss.drop cts.length) (vs.drop cts.length) := RepCs.later l1 (hs.drop cts.length)
        obtain ⟨G2, l2, b1, b2⟩ := reifyRows_sound l1.rel h3 hrest
        have hpa := pick_and (fresh_le w G2 B) fr1 fr2
        refine ⟨G2, l1.trans l2, by simp [b1], ?_⟩
        have hh := RowT.cons ((hc.mono (pick_le l2.m l2.mf _)).mono hpa.1) (b2.mono hpa.2)
        rw [List.take_append_drop] at hh
        exact hh
      · cases h
    · cases h

def zeroRow (z : List SC) (n : Nat) : List SC := (List.range n).map fun j => z.getD (j % z.length) .undef
def sBuildSlice (P : Program) (gt : GT) (st : SS) (t : TypeId) (len : Nat) (parts : List (Nat × Operand)) : Option Out := match P.underlying t with
  | some (.slice e) => match shapeP P 12 e, zeroP P e with
    | some (ag, cts), some z => if sizeB P e cts.length && Nat.beq z.length cts.length && Nat.ble (len * cts.length) 16777216 && Nat.blt 0 cts.length then (match partsOf gt st parts with
      | some l => match sFill (fun i => some (i * cts.length, cts.length)) (zeroRow z (len * cts.length)) l with
        | some cells => match reifyRows ag cts len cells st.heap with
          | some (fr, es, hp) => some (newRow st [] hp fr e ag cts (es.foldr .cons .nil))
          | none => none
        | none => none
      | none => none) else none
    | _, _ => none
  | _ => none
theorem sBuildSlice_sound {a : Act} (r : Rel Γ gt ρ B G st as (a.tmps :: vss) w) {t : TypeId} {len : Nat} {parts : Array (Nat × Operand)} {out : Out} (h : sBuildSlice P gt st t len parts.toList = some out) :
    Done P Γ gt ρ B st (a.tmps :: vss) w out ((Instr.buildSlice t len (parts.map fun (i, x) => (i, a.eval x))).run P w) := by
  unfold sBuildSlice at h
  split at h
  · rename_i e hu
    split at h
    · rename_i ag cts z hsh hz
      split at h
      · rename_i hcond
        simp only [Bool.and_eq_true, Nat.beq_eq, Nat.ble_eq, Nat.blt_eq] at hcond
        obtain ⟨⟨⟨hsz, hzl⟩, h24⟩, hpos⟩ := hcond
        have hsz := sizeB_eq hsz
        split at h
        · rename_i l hl
          split at h
          · rename_i cells hf
            split at h
            · rename_i fr es hp hrr
              simp only [Option.some.injEq] at h
              subst h
              unfold zeroP at hz
              cases hi : P.info? e with
              | none => rw [hi] at hz; cases hz
              | some it =>
                rw [hi] at hz
                simp only [Option.bind_some] at hz
                cases hz0 : it.zero with
                | none => rw [hz0] at hz; cases hz
                | some zv =>
                  rw [hz0] at hz
                  simp only [Option.map_some, Option.some.injEq] at hz
                  have hzsz : zv.cells.size = cts.length := by rw [← hzl, ← hz]; simp
                  have hz0rep : RepCs Γ ρ st.heap as (stable w G) (fresh w G B) (zeroRow z (len * cts.length)) ((Array.range (len * cts.length)).map (zv.cells[· % zv.cells.size]!)).toList := by
                    refine ⟨by simp [zeroRow], fun i x y hx hy => ?_⟩
                    by_cases hil : i < len * cts.length
                    · have hmod : i % cts.length < zv.cells.size := by rw [hzsz]; exact Nat.mod_lt _ hpos
                      simp only [zeroRow, List.getElem?_map, List.getElem?_range hil, Option.map_some, Option.some.injEq] at hx
                      have hy' : zv.cells[i % cts.length]'hmod = y := by
                        have hz' : (Array.range (len * cts.length)).map (zv.cells[· % zv.cells.size]!) = (Array.range (len * cts.length)).map (fun j => zv.cells[j % zv.cells.size]!) := rfl
                        rw [hz', Array.toList_map, List.getElem?_map] at hy
                        have hr' : (Array.range (len * cts.length)).toList[i]? = some i := by simp [hil]
                        rw [hr'] at hy
                        simp only [Option.map_some, Option.some.injEq] at hy
                        rw [← hy, hzsz]
                        exact (getElem!_pos zv.cells _ hmod).symm
                      rw [← hx, ← hz]
                      have hlz : (zv.cells.toList.map ofConst).length = cts.length := by simp [hzsz]
                      rw [hlz, List.getD_eq_getElem?_getD, List.getElem?_map]
                      have : zv.cells.toList[i % cts.length]? = some (zv.cells[i % cts.length]'hmod) := by simp [hmod]
                      rw [this, ← hy']
                      exact RepC_ofConst _ _ _ _ _
                    · rw [List.getElem?_eq_none (by simp [zeroRow]; omega)] at hx
                      cases hx
                  have hp' := partsOf_rep r hl
                  obtain ⟨res, k1, k2⟩ := sFill_rep (place := fun i => some (i * cts.length, cts.length)) hf (vals := (parts.map fun (i, x) => (i, a.eval x)).toList) (by rw [Array.toList_map]; exact hp') hz0rep
                  obtain ⟨G', lt, b1, b2⟩ := reifyRows_sound r hrr k2
                  have hden : ((es.foldr E.cons .nil).den Γ ρ).asList = es.map (·.den Γ ρ) := foldr_den es
                  have hxs : res.size = len * cts.length := by have := b2.1; simp [b1] at this; exact this
                  have hrun : (Instr.buildSlice t len (parts.map fun (i, x) => (i, a.eval x))).run P w = .ok (.slice (some ⟨w.heap.size, 0, none⟩) len len) (w.alloc (.cells res e)) := by
                    by_cases h0 : len * cts.length = 0
                    · have hlen0 : len = 0 := by
                        rcases Nat.mul_eq_zero.1 h0 with h | h
                        · exact h
                        · omega
                      have k1' : Instr.fill (fun i => some (i * cts.length, cts.length)) ((Array.range (len * cts.length)).map ((#[] : Array Value)[· % (#[] : Array Value).size]!)) (parts.map fun (i, x) => (i, a.eval x)).toList = some res := by
                        have e0 : ∀ f : Nat → Value, (Array.range (len * cts.length)).map f = #[] := fun f => by rw [h0]; simp
                        rw [e0] at k1 ⊢
                        exact k1
                      simp only [Instr.buildSlice, Sem.run_bind, run_underlying hu, Result.andThen_ok, run_sizeOf hsz, if_neg (show ¬ len * cts.length > 2 ^ 24 by omega), if_pos h0, Sem.run_pure, k1', Go.newRow, run_newObj]
                      rfl
                    · have hzv : (zeroValue e).run P w = .ok zv w := by simp [zeroValue, typeInfo, hi, hz0]
                      simp only [Instr.buildSlice, Sem.run_bind, run_underlying hu, Result.andThen_ok, run_sizeOf hsz, if_neg (show ¬ len * cts.length > 2 ^ 24 by omega), if_neg h0, Sem.run_pure, hzv, k1, Go.newRow, run_newObj]
                      rfl
                  rw [hrun]
                  refine done_row (P := P) (xs := res.toList) r lt rfl rfl rfl rfl (by rw [hden]; simp [b1]) (by rw [hden]; exact b2) (Nat.le_refl _) ?_ hxs ?_
                  · have := Nat.le_mul_of_pos_right len hpos
                    unfold maxLen; omega
                  · rw [List.take_of_length_le (by simp [hxs])]
            · cases h
          · cases h
        · cases h
      · cases h
    · cases h
  · cases h
end
end Go.Proofs.YtccpepheooleoaaDoor
