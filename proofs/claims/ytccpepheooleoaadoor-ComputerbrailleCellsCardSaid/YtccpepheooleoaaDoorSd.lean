/- Symbolic runs, part d: operations that read memory. -/
import Derived.Test.YtccpepheooleoaaDoorSc
namespace Go.Proofs.YtccpepheooleoaaDoor
set_option linter.unusedSimpArgs false
set_option linter.unusedVariables false
set_option linter.unusedSectionVars false
open Go.RowKit

section
variable {Γ : CEnv} {gt : GT} {ρ : List TV} {B : Nat} {G : Nat → Prop} {st : SS} {as : List Value} {vss : List (Array Value)} {w : World} {P : Program}

theorem BlkRel.one {ρ : List TV} {hp : List Blk} {as : List Value} {M Mf : Mem} {B : Nat} {w : World} {blk : Blk} {va : Value} {e : E} (h : BlkRel Γ ρ hp as M Mf B w blk va) (hc : blk.cont = .row e) : va.oneCell' = true := by
  unfold BlkRel at h
  rw [hc] at h
  dsimp only at h
  split at h
  · obtain ⟨xs, h1, h2⟩ := h
    rcases h1.2 with ⟨rfl, _⟩ | ⟨g, cap, cur, rfl, _⟩ <;> rfl
  · rcases h.2 with h | ⟨g, l, c, h⟩ <;> (rw [h]; rfl)

/-! ### Rows, read -/
structure Row where
  fr : Bool
  ag : Bool
  cs : List CT
  e : E

def subE (e lo hi : E) : E := .o3 .sub e lo hi
def rowOf (hp : List Blk) : SC → Option Row
  | .imm fr ag cs e => some ⟨fr, ag, cs, e⟩
  | .own b ver => match hp[b]? with
    | some blk => if Nat.beq blk.ver ver then (match blk.cont with | .row e => some ⟨blk.fr, blk.ag, blk.cs, e⟩ | _ => none) else none
    | none => none
  | .sub b ver lo hi => match hp[b]? with
    | some blk => if Nat.beq blk.ver ver then (match blk.cont with | .row e => some ⟨blk.fr, blk.ag, blk.cs, subE e lo hi⟩ | _ => none) else none
    | none => none
  | _ => none

/-- A slice value whose cells read as the elements of a list. -/
def Reads (M : Mem) (w : World) (ag : Bool) (cs : List CT) (ts : List TV) (v : Value) : Prop :=
  ∃ (a : Option Addr) (cap : Nat) (xs : List Value), v = .slice a ts.length cap ∧ ts.length ≤ cap ∧ cap ≤ maxLen ∧ (a = none → cap = 0) ∧ RowT M ag cs ts xs ∧
    ∀ (j : Nat) (u : Value), xs[j]? = some u → ∃ g off, a = some ⟨g, off, none⟩ ∧ w.cell? ⟨g, off + j, none⟩ = some u

/-- Memory that is this world's. -/
def Mem.of (M : Mem) (w : World) : Prop := ∀ g o, M g o → w.heap[g]? = some o
theorem stable_of (w : World) (G : Nat → Prop) : Mem.of (stable w G) w := fun _ _ h => h.1
theorem fresh_of (w : World) (G : Nat → Prop) (B : Nat) : Mem.of (fresh w G B) w := fun _ _ h => h.1
theorem pick_of {M Mf : Mem} (h : Mem.of M w) (h' : Mem.of Mf w) (fr : Bool) : Mem.of (pick M Mf fr) w := by cases fr <;> assumption

theorem idx_lt {n size i c : Nat} (hi : i < n) (hc : c < size) : i * size + c < n * size := by
  have : (i + 1) * size ≤ n * size := Nat.mul_le_mul_right _ hi
  rw [Nat.add_mul, Nat.one_mul] at this
  omega
theorem idx_split {n size j : Nat} (hj : j < n * size) : ∃ i c, i < n ∧ c < size ∧ j = i * size + c := by
  have hs : 0 < size := by
    rcases Nat.eq_zero_or_pos size with h | h
    · rw [h, Nat.mul_zero] at hj; omega
    · exact h
  refine ⟨j / size, j % size, ?_, Nat.mod_lt _ hs, ?_⟩
  · exact (Nat.div_lt_iff_lt_mul hs).2 hj
  · rw [Nat.mul_comm]; exact (Nat.div_add_mod _ _).symm

theorem RepT.reads {M : Mem} (hM : Mem.of M w) {ag : Bool} {cs : List CT} {t : TV} {v : Value} (r : RepT M (.slice ag cs) t v) : Reads M w ag cs t.asList v := by
  cases r with
  | empty ag cs t a cap h hn hm =>
    refine ⟨a, cap, [], by rw [h]; rfl, by rw [h]; exact Nat.zero_le _, hm, hn, by rw [h]; exact ⟨by simp, fun i hi => by simp at hi⟩, fun j u hu => by simp at hu⟩
  | slice ag cs t g off cap cur el fr vals hg hcap hmax hc hr =>
    refine ⟨_, cap, (List.range (t.asList.length * cs.length)).map fun j => cur[off + j]?.getD undef, rfl, hcap, hmax, (fun h => by cases h), ⟨by simp, fun i hi c hc' => ?_⟩, fun j u hu => ⟨g, off, rfl, ?_⟩⟩
    · have hlt := idx_lt hi hc'
      refine ⟨vals i c, ?_, hr i hi c hc'⟩
      rw [List.getElem?_map, List.getElem?_range hlt]
      simp only [Option.map_some]
      have := hc i hi c hc'
      rw [← Nat.add_assoc, this]
      rfl
    · rw [List.getElem?_map] at hu
      have hj : j < t.asList.length * cs.length := by
        by_cases hj : j < t.asList.length * cs.length
        · exact hj
        · rw [List.getElem?_eq_none (by simpa using hj)] at hu; cases hu
      rw [List.getElem?_range hj] at hu
      simp only [Option.map_some, Option.some.injEq] at hu
      obtain ⟨i, c, hi, hc', rfl⟩ := idx_split hj
      have h1 := hc i hi c hc'
      have hcell : w.cell? ⟨g, off + (i * cs.length + c), none⟩ = cur[off + (i * cs.length + c)]? := by
        unfold World.cell?
        rw [hM _ _ hg]
        rfl
      rw [hcell, ← Nat.add_assoc, h1, ← hu, ← Nat.add_assoc, h1]
      rfl

theorem Reads.of_own {M : Mem} {B : Nat} {ety : TypeId} {ag : Bool} {cs : List CT} {ts : List TV} {va : Value} {xs : List Value} (ho : w.ownsRow B ety cs.length va ts.length xs) (hr : RowT M ag cs ts xs) : Reads M w ag cs ts va ∧ HeadOrNil va := by
  rcases ho.2 with ⟨rfl, hn⟩ | ⟨g, cap, cur, rfl, hb, hg, hle, hmax, hsz, htk⟩
  · have : ts = [] := List.eq_nil_of_length_eq_zero hn
    subst this
    refine ⟨⟨none, 0, xs, rfl, Nat.zero_le _, Nat.zero_le _, fun _ => rfl, hr, fun j u hu => ?_⟩, .inl rfl⟩
    have : xs = [] := List.eq_nil_of_length_eq_zero (by simpa using ho.1)
    subst this
    simp at hu
  · refine ⟨⟨_, cap, xs, rfl, hle, hmax, (fun h => by cases h), hr, fun j u hu => ⟨g, 0, rfl, ?_⟩⟩, .inr ⟨g, _, cap, rfl⟩⟩
    have := ho.cells (g := g) rfl j u hu
    rwa [Addr.add_lit] at this

theorem Reads.sub {M : Mem} {ag : Bool} {cs : List CT} {ts : List TV} {va v : Value} {lo hi : Int} (r : Reads M w ag cs ts va) (hh : HeadOrNil va) (h0 : 0 ≤ lo) (h1 : lo ≤ hi) (h2 : hi ≤ ts.length) {a : Option Addr} {cap : Nat}
    (hv : v = .slice a (hi - lo).toNat cap) (hcap : (hi - lo).toNat ≤ cap) (hmax : cap ≤ maxLen) (hn : a = none → cap = 0) (hk : lo = hi ∨ ∃ g l c, va = .slice (some ⟨g, 0, none⟩) l c ∧ a = some ⟨g, lo.toNat * cs.length, none⟩) :
    Reads M w ag cs ((ts.drop lo.toNat).take (hi.toNat - lo.toNat)) v := by
  have hlen : ((ts.drop lo.toNat).take (hi.toNat - lo.toNat)).length = (hi - lo).toNat := by rw [List.length_take, List.length_drop]; omega
  obtain ⟨a0, cap0, xs, e0, _, _, _, hr, hc⟩ := r
  rcases hk with hk | ⟨g, l, c, e1, e2⟩
  · subst hk
    have : (ts.drop lo.toNat).take (lo.toNat - lo.toNat) = [] := by simp
    rw [this]
    exact ⟨a, cap, [], by rw [hv]; simp, Nat.zero_le _, hmax, hn, ⟨by simp, fun i hi => by simp at hi⟩, fun j u hu => by simp at hu⟩
  · refine ⟨a, cap, (xs.drop (lo.toNat * cs.length)).take ((hi - lo).toNat * cs.length), by rw [hlen]; exact hv, by rw [hlen]; exact hcap, hmax, hn, ⟨?_, fun i hi' c hc' => ?_⟩, fun j u hu => ?_⟩
    · rw [List.length_take, List.length_drop, hr.1, hlen, ← Nat.sub_mul]
      apply Nat.min_eq_left
      exact Nat.mul_le_mul_right _ (by omega)
    · rw [hlen] at hi'
      obtain ⟨v, h3, h4⟩ := hr.2 (lo.toNat + i) (by omega) c hc'
      refine ⟨v, ?_, ?_⟩
      · rw [List.getElem?_take, if_pos (idx_lt hi' hc'), List.getElem?_drop, ← Nat.add_assoc, ← Nat.add_mul]
        exact h3
      · have : ((ts.drop lo.toNat).take (hi.toNat - lo.toNat))[i]'(by rw [hlen]; exact hi') = ts[lo.toNat + i]'(by omega) := by
          rw [List.getElem_take, List.getElem_drop]
        rw [this]; exact h4
    · rw [List.getElem?_take] at hu
      split at hu
      · rw [List.getElem?_drop] at hu
        obtain ⟨g', off, e3, e4⟩ := hc _ u hu
        rw [e0] at e1
        rw [e3] at e1
        injection e1 with e5 e6 e7
        injection e5 with e5
        injection e5 with e8 e9
        subst e8 e9
        refine ⟨_, _, e2, ?_⟩
        rw [Nat.zero_add] at e4
        exact e4
      · cases hu

theorem rowOf_reads (r : Rel Γ gt ρ B G st as vss w) {s : SC} {row : Row} {v : Value} (h : rowOf st.heap s = some row) (hs : RepC Γ ρ st.heap as (stable w G) (fresh w G B) s v) :
    Reads (pick (stable w G) (fresh w G B) row.fr) w row.ag row.cs (row.e.den Γ ρ).asList v := by
  have whole : ∀ (b : Nat) (blk : Blk) (va : Value) (e : E), st.heap[b]? = some blk → as[b]? = some va → blk.cont = .row e → Reads (pick (stable w G) (fresh w G B) blk.fr) w blk.ag blk.cs (e.den Γ ρ).asList va ∧ HeadOrNil va := by
    intro b blk va e h1 h2 h3
    have hb := r.blks b blk va h1 h2
    unfold BlkRel at hb
    rw [h3] at hb
    dsimp only at hb
    split at hb
    · obtain ⟨xs, k1, k2⟩ := hb
      exact Reads.of_own k1 k2
    · exact ⟨RepT.reads (pick_of (stable_of w G) (fresh_of w G B) _) hb.1, hb.2⟩
  unfold rowOf at h
  cases s <;> simp only [reduceCtorEq] at h
  case imm fr ag cs e =>
    simp only [Option.some.injEq] at h
    subst h
    exact RepT.reads (pick_of (stable_of w G) (fresh_of w G B) _) hs
  case own b ver =>
    obtain ⟨_, blk, va, h1, h2, h3, h4⟩ := hs
    rw [h1] at h
    dsimp only at h
    split at h
    · rename_i hv
      split at h
      · rename_i e hc
        simp only [Option.some.injEq] at h
        subst h
        obtain ⟨rfl, _⟩ := h4 (Nat.eq_of_beq_eq_true hv)
        exact (whole b blk _ e h1 h2 hc).1
      · cases h
    · cases h
  case sub b ver lo hi =>
    obtain ⟨_, blk, va, h1, h2, h3, h4⟩ := hs
    rw [h1] at h
    dsimp only at h
    split at h
    · rename_i hv
      split at h
      · rename_i e hc
        simp only [Option.some.injEq] at h
        subst h
        obtain ⟨⟨n, k1, k2, k3, k4, a, cap, k5, k6, k7, k8, k9⟩, _⟩ := h4 (Nat.eq_of_beq_eq_true hv)
        have hw := whole b blk va e h1 h2 hc
        have hn : n = (e.den Γ ρ).asList.length := by simp only [Blk.len, hc, Option.some.injEq] at k1; exact k1.symm
        have hsz : blk.size = blk.cs.length := by simp only [Blk.size, hc]
        rw [hsz] at k9
        rw [hn] at k4
        exact Reads.sub hw.1 hw.2 k2 k3 k4 k5 k6 k7 k8 k9
      · cases h
    · cases h

/-! ### Cells behind a pointer -/
def scOf (fr : Bool) : CT → E → SC
  | .int k, e => .int k e
  | .bool, e => .bool e
  | .str, e => .str e
  | .slice ag cs, e => .imm fr ag cs e
theorem scOf_rep {hp : List Blk} {as : List Value} {M Mf : Mem} {fr : Bool} {ct : CT} {e : E} {v : Value} (h : RepT (pick M Mf fr) ct (e.den Γ ρ) v) : RepC Γ ρ hp as M Mf (scOf fr ct e) v := by
  cases ct with
  | int k => cases h; rfl
  | bool => cases h; rfl
  | str => cases h; rfl
  | slice ag cs => exact h
def elemE (ag : Bool) (te : E) (c : Nat) : E := if ag then .o1 (.proj c) te else te
theorem elemE_den {ag : Bool} {te : E} {c : Nat} : (elemE ag te c).den Γ ρ = elemCell ag (te.den Γ ρ) c := by
  unfold elemE elemCell; cases ag <;> rfl
/-- Element i of a list by its cells, from the c-th on. -/
def rowCells (fr ag : Bool) (e i : E) : List CT → Nat → List SC
  | [], _ => []
  | ct :: cs, c => scOf fr ct (elemE ag (.o2 .idx e i) c) :: rowCells fr ag e i cs (c + 1)
theorem rowCells_get {fr ag : Bool} {e i : E} : ∀ {cs : List CT} {c j : Nat} {s : SC}, (rowCells fr ag e i cs c)[j]? = some s → ∃ ct, cs[j]? = some ct ∧ s = scOf fr ct (elemE ag (.o2 .idx e i) (c + j))
  | [], c, j, s, h => by simp [rowCells] at h
  | ct :: cs, c, 0, s, h => by simp [rowCells] at h; exact ⟨ct, rfl, h.symm⟩
  | ct :: cs, c, j + 1, s, h => by
    simp only [rowCells, List.getElem?_cons_succ] at h
    obtain ⟨ct', h1, h2⟩ := rowCells_get h
    exact ⟨ct', by simpa using h1, by rw [h2, Nat.add_assoc, Nat.add_comm 1 j]⟩

def cellsAt (hp : List Blk) : SC → Option (List SC)
  | .ptr b ver i c => match hp[b]? with
    | some blk => if Nat.beq blk.ver ver then (match blk.cont with
      | .row e => some (rowCells blk.fr blk.ag e i (blk.cs.drop c) c)
      | .box cs => some (cs.drop c)
      | .dead => none) else none
    | none => none
  | .pel fr ag cs e i c => some (rowCells fr ag e i (cs.drop c) c)
  | _ => none

theorem idx_den {e i : E} (h0 : 0 ≤ (i.den Γ ρ).asInt) (h1 : (i.den Γ ρ).asInt < (e.den Γ ρ).asList.length) :
    (E.o2 .idx e i).den Γ ρ = (e.den Γ ρ).asList[(i.den Γ ρ).asInt.toNat]'(by omega) := by
  simp only [E.den, P2.den]
  rw [List.getD_eq_getElem?_getD, List.getElem?_eq_getElem (by omega)]
  rfl

theorem cellsAt_reads (r : Rel Γ gt ρ B G st as vss w) {s : SC} {cells : List SC} {v : Value} (h : cellsAt st.heap s = some cells) (hs : RepC Γ ρ st.heap as (stable w G) (fresh w G B) s v) :
    ∃ g o, v = .pointer (some ⟨g, o, none⟩) ∧ ∀ (j : Nat) (t : SC), cells[j]? = some t → ∃ u, w.cell? ⟨g, o + j, none⟩ = some u ∧ RepC Γ ρ st.heap as (stable w G) (fresh w G B) t u := by
  unfold cellsAt at h
  cases s <;> simp only [reduceCtorEq] at h
  case ptr b ver i c =>
    obtain ⟨_, blk, va, h1, h2, h3, h4⟩ := hs
    rw [h1] at h
    dsimp only at h
    split at h
    · rename_i hv
      obtain ⟨n, g, k1, k2, k3, k4, k5⟩ := h4 (Nat.eq_of_beq_eq_true hv)
      refine ⟨g, _, k5, ?_⟩
      have hb := r.blks b blk va h1 h2
      split at h
      · rename_i e hc
        simp only [Option.some.injEq] at h
        subst h
        simp only [Blk.len, hc, Option.some.injEq] at k1
        have hrow : rowOf st.heap (.own b ver) = some ⟨blk.fr, blk.ag, blk.cs, e⟩ := by simp only [rowOf, h1, hv, if_true, hc]
        have hread := rowOf_reads r hrow (v := va) ⟨BlkRel.one (r.blks b blk va h1 h2) hc, blk, va, h1, h2, h3, fun _ => ⟨rfl, e, hc⟩⟩
        obtain ⟨a, cap, xs, e0, _, _, _, hr, hcl⟩ := hread
        dsimp only at e0 hr hcl
        have hsz : blk.size = blk.cs.length := by simp only [Blk.size, hc]
        have hhead : HeadOrNil va := by
          unfold BlkRel at hb
          rw [hc] at hb
          dsimp only at hb
          split at hb
          · obtain ⟨xs, q1, q2⟩ := hb; exact (Reads.of_own q1 q2).2
          · exact hb.2
        have ha : a = some ⟨g, 0, none⟩ := by
          rcases hhead with hh | ⟨g', l, c', hh⟩
          · rw [hh] at k4; cases k4
          · rw [hh] at k4 e0
            injection k4 with k4
            injection e0 with e1
            rw [← e1, ← k4]
        intro j t hj
        obtain ⟨ct, q1, q2⟩ := rowCells_get hj
        rw [List.getElem?_drop] at q1
        have hcl1 : c + j < blk.cs.length := (List.getElem?_eq_some_iff.1 q1).1
        have hi : (i.den Γ ρ).asInt.toNat < (e.den Γ ρ).asList.length := by omega
        obtain ⟨u, q3, q4⟩ := hr.2 _ hi (c + j) hcl1
        refine ⟨u, ?_, ?_⟩
        · obtain ⟨g', off, q5, q6⟩ := hcl _ u q3
          rw [ha] at q5
          injection q5 with q5
          injection q5 with q7 q8
          subst q7 q8
          rw [hsz, Nat.add_assoc]
          rwa [Nat.zero_add] at q6
        · rw [q2]
          apply scOf_rep
          rw [elemE_den, idx_den k2 (by omega)]
          have : blk.cs[c + j] = ct := by rw [List.getElem?_eq_getElem hcl1] at q1; injection q1
          rw [this] at q4
          exact q4
      · rename_i cs hc
        simp only [Option.some.injEq] at h
        subst h
        unfold BlkRel at hb
        rw [hc] at hb
        dsimp only at hb
        obtain ⟨g', cur, q1, q2, q3, q4⟩ := hb
        rw [q1] at k4
        injection k4 with k4
        subst k4
        simp only [Blk.len, hc, Option.some.injEq] at k1
        have hi0 : (i.den Γ ρ).asInt.toNat = 0 := by omega
        intro j t hj
        rw [List.getElem?_drop] at hj
        obtain ⟨u, q5, q6⟩ := q4.get hj
        refine ⟨u, ?_, q6⟩
        rw [hi0, Nat.zero_mul, Nat.zero_add]
        unfold World.cell?
        simp only [q3]
        simpa using q5
      · cases h
    · cases h
  case pel fr ag cs e i c =>
    simp only [Option.some.injEq] at h
    subst h
    obtain ⟨g, off, cap, h1, h2, h3, h4⟩ := hs
    refine ⟨g, _, h4, fun j t hj => ?_⟩
    obtain ⟨ct, q1, q2⟩ := rowCells_get hj
    rw [List.getElem?_drop] at q1
    have hcl1 : c + j < cs.length := (List.getElem?_eq_some_iff.1 q1).1
    obtain ⟨a, cap', xs, e0, _, _, _, hr, hcl⟩ := RepT.reads (pick_of (stable_of w G) (fresh_of w G B) _) h1
    have hi : (i.den Γ ρ).asInt.toNat < (e.den Γ ρ).asList.length := by omega
    obtain ⟨u, q3, q4⟩ := hr.2 _ hi (c + j) hcl1
    refine ⟨u, ?_, ?_⟩
    · obtain ⟨g', off', q5, q6⟩ := hcl _ u q3
      injection e0 with e1
      rw [q5] at e1
      injection e1 with e1
      injection e1 with q7 q8
      subst q7 q8
      rw [Nat.add_assoc off, Nat.add_assoc, Nat.add_assoc]
      exact q6
    · rw [q2]
      apply scOf_rep
      rw [elemE_den, idx_den h2 (by omega)]
      have : cs[c + j] = ct := by rw [List.getElem?_eq_getElem hcl1] at q1; injection q1
      rw [this] at q4
      exact q4
end
end Go.Proofs.YtccpepheooleoaaDoor
