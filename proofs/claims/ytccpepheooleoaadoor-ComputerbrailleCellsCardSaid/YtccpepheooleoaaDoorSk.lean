/- Symbolic runs, part k: stores, appends. -/
import Derived.Test.YtccpepheooleoaaDoorSj
import Derived.Laws.OwnMore
namespace Go.Proofs.YtccpepheooleoaaDoor
set_option linter.unusedSimpArgs false
set_option linter.unusedVariables false
set_option linter.unusedSectionVars false
open Go.RowKit

section
variable {Γ : CEnv} {gt : GT} {ρ : List TV} {B : Nat} {G : Nat → Prop} {st : SS} {as : List Value} {vss : List (Array Value)} {w : World} {P : Program}

theorem get_set_self {α : Type} {l : List α} {i : Nat} {x y : α} (h : l[i]? = some y) : (l.set i x)[i]? = some x := by
  rw [List.getElem?_set, if_pos rfl, if_pos (List.getElem?_eq_some_iff.1 h).1]
theorem get_set_ne {α : Type} {l : List α} {i j : Nat} {x : α} (h : j ≠ i) : (l.set i x)[j]? = l[j]? := by
  rw [List.getElem?_set, if_neg (fun e => h e.symm)]

/-- One of the call's own blocks is other than it was; its value, or its place, may be other as well. -/
theorem Rel.turn (r : Rel Γ gt ρ B G st as vss w) {b : Nat} {blk blk' : Blk} {va va' : Value} (hb : st.heap[b]? = some blk) (hva : as[b]? = some va) (hl : blk.live = true) (hl' : blk'.live = true) {w' : World}
    (hver : blk.ver ≤ blk'.ver) (hsame : blk'.ver = blk.ver → va' = va ∧ blk'.size = blk.size ∧ blk'.len Γ ρ = blk.len Γ ρ ∧ ∀ e, blk.cont = .row e → ∃ e', blk'.cont = .row e')
    (hsz : w.heap.size ≤ w'.heap.size) (hw : ∀ k, k < w.heap.size → gOf va ≠ some k → w'.heap[k]? = w.heap[k]?) (hg : ∀ g, gOf va' = some g → B ≤ g ∧ g < w'.heap.size ∧ (gOf va = some g ∨ w.heap.size ≤ g))
    (hblk : ∀ (G' : Nat → Prop) (hp' : List Blk) (as' : List Value), Tr Γ ρ st.heap as hp' as' → Mem.le (stable w G) (stable w' G') → Mem.le (fresh w G B) (fresh w' G' B) → BlkRel Γ ρ hp' as' (stable w' G') (fresh w' G' B) B w' blk' va') :
    Rel Γ gt ρ B (fun g => (G g ∧ gOf va ≠ some g) ∨ gOf va' = some g) { st with heap := st.heap.set b blk' } (as.set b va') vss w' := by
  have hbl := (List.getElem?_eq_some_iff.1 hb).1
  have hGva : ∀ g, gOf va = some g → G g := fun g h => r.own b blk va g hb hva hl h
  have key : ∀ g o, w.heap[g]? = some o → ¬ G g → w'.heap[g]? = some o ∧ ¬ ((G g ∧ gOf va ≠ some g) ∨ gOf va' = some g) := by
    intro g o h1 h2
    have hlt := (Array.getElem?_eq_some_iff.1 h1).1
    have hne : gOf va ≠ some g := fun e => h2 (hGva g e)
    refine ⟨by rw [hw g hlt hne]; exact h1, fun h => ?_⟩
    rcases h with h | h
    · exact h2 h.1
    · rcases (hg g h).2.2 with h3 | h3
      · exact hne h3
      · omega
  have hm : Mem.le (stable w G) (stable w' fun g => (G g ∧ gOf va ≠ some g) ∨ gOf va' = some g) := fun g o h => key g o h.1 h.2
  have hmf : Mem.le (fresh w G B) (fresh w' (fun g => (G g ∧ gOf va ≠ some g) ∨ gOf va' = some g) B) := fun g o h => let ⟨a, c⟩ := key g o h.1 h.2.1; ⟨a, c, h.2.2⟩
  have tr : Tr Γ ρ st.heap as (st.heap.set b blk') (as.set b va') := ⟨fun b' k v h1 h2 => by
    by_cases e : b' = b
    · subst e
      rw [hb] at h1
      injection h1 with h1
      rw [hva] at h2
      injection h2 with h2
      subst h1 h2
      exact ⟨blk', va', get_set_self hb, get_set_self hva, hver, hsame⟩
    · exact ⟨k, v, by rw [get_set_ne e]; exact h1, by rw [get_set_ne e]; exact h2, Nat.le_refl _, fun _ => ⟨rfl, rfl, rfl, fun e h => ⟨e, h⟩⟩⟩⟩
  refine r.step _ tr hm hmf (by simp [r.alen]) ?_ ?_ ?_ (Nat.le_trans r.base hsz) ?_
  · intro b' k v h1 h2
    rcases set_get h1 with ⟨e, e1⟩ | ⟨hne, h1⟩
    · subst e
      rcases set_get h2 with ⟨_, e2⟩ | ⟨h, _⟩
      · subst e1 e2; exact hblk _ _ _ tr hm hmf
      · exact absurd rfl h
    · rcases set_get h2 with ⟨h, _⟩ | ⟨_, h2⟩
      · exact absurd h hne
      · refine BlkRel.tr tr hm hmf (r.blks b' k v h1 h2) fun hlv g hg' => ?_
        have hgs := r.gs g (r.own b' k v g h1 h2 hlv hg')
        exact hw g hgs.2 fun h => hne (r.dist b' b k blk v va g h1 h2 hlv hg' hb hva hl h)
  · intro b' k v g h1 h2 hlv hg'
    rcases set_get h1 with ⟨e, e1⟩ | ⟨hne, h1⟩
    · subst e
      rcases set_get h2 with ⟨_, e2⟩ | ⟨h, _⟩
      · subst e2; exact .inr hg'
      · exact absurd rfl h
    · rcases set_get h2 with ⟨h, _⟩ | ⟨_, h2⟩
      · exact absurd h hne
      · exact .inl ⟨r.own b' k v g h1 h2 hlv hg', fun h => hne (r.dist b' b k blk v va g h1 h2 hlv hg' hb hva hl h)⟩
  · intro b1 b2 k1 k2 v1 v2 g h1 h2 hl1 hg1 h3 h4 hl2 hg2
    rcases set_get h1 with ⟨e1, f1⟩ | ⟨n1, q1⟩ <;> rcases set_get h3 with ⟨e3, f3⟩ | ⟨n3, q3⟩
    · rw [e1, e3]
    · exfalso
      rcases set_get h2 with ⟨_, e2⟩ | ⟨h, _⟩
      · rcases set_get h4 with ⟨h, _⟩ | ⟨_, q4⟩
        · exact n3 h
        · rw [e2] at hg1
          rcases (hg g hg1).2.2 with h5 | h5
          · exact n3 (r.dist b2 b k2 blk v2 va g q3 q4 hl2 hg2 hb hva hl h5)
          · have := (r.gs g (r.own b2 k2 v2 g q3 q4 hl2 hg2)).2; omega
      · exact h e1
    · exfalso
      rcases set_get h4 with ⟨_, e2⟩ | ⟨h, _⟩
      · rcases set_get h2 with ⟨h, _⟩ | ⟨_, q2⟩
        · exact n1 h
        · rw [e2] at hg2
          rcases (hg g hg2).2.2 with h5 | h5
          · exact n1 (r.dist b1 b k1 blk v1 va g q1 q2 hl1 hg1 hb hva hl h5)
          · have := (r.gs g (r.own b1 k1 v1 g q1 q2 hl1 hg1)).2; omega
      · exact h e3
    · rcases set_get h2 with ⟨h, _⟩ | ⟨_, q2⟩
      · exact absurd h n1
      · rcases set_get h4 with ⟨h, _⟩ | ⟨_, q4⟩
        · exact absurd h n3
        · exact r.dist b1 b2 k1 k2 v1 v2 g q1 q2 hl1 hg1 q3 q4 hl2 hg2
  · intro g h
    rcases h with h | h
    · have := r.gs g h.1; omega
    · have := hg g h; omega

/-! ### Stores -/
theorem all_one {hp : List Blk} {as : List Value} {M Mf : Mem} {cs : List SC} {vs : List Value} (h : RepCs Γ ρ hp as M Mf cs vs) (ho : cs.all SC.one = true) : ∀ v ∈ vs, v.oneCell' = true := by
  intro v hv
  obtain ⟨i, hi, rfl⟩ := List.mem_iff_getElem.1 hv
  obtain ⟨s, h1, h2⟩ := h.getr (List.getElem?_eq_getElem hi)
  exact RepC.one h2 (List.all_eq_true.1 ho s (List.mem_of_getElem? h1))
theorem RowT.set {M : Mem} {ag : Bool} {cs : List CT} {ts : List TV} {xs : List Value} {t : TV} {vs : List Value} (h : RowT M ag cs ts xs) (k : CellsT M ag cs t vs) {i : Nat} (hi : i < ts.length) :
    RowT M ag cs (ts.set i t) (xs.take (i * cs.length) ++ (vs ++ xs.drop (i * cs.length + vs.length))) := by
  have hb : i * cs.length + cs.length ≤ ts.length * cs.length := by have := Nat.mul_le_mul_right cs.length hi; rw [Nat.succ_mul] at this; exact this
  refine ⟨by simp only [List.length_append, List.length_take, List.length_drop, List.length_set, h.1, k.1]; omega, fun j hj c hc => ?_⟩
  rw [List.length_set] at hj
  have hlt := idx_lt hj hc
  have hl1 : (xs.take (i * cs.length)).length = i * cs.length := by rw [List.length_take, h.1]; omega
  by_cases hij : j = i
  · subst hij
    obtain ⟨v, h1, h2⟩ := k.2 c hc
    refine ⟨v, ?_, by rw [List.getElem_set_self]; exact h2⟩
    rw [List.getElem?_append_right (by omega), hl1, List.getElem?_append_left (by rw [k.1]; omega), show j * cs.length + c - j * cs.length = c by omega]
    exact h1
  · obtain ⟨v, h1, h2⟩ := h.2 j hj c hc
    refine ⟨v, ?_, by rw [List.getElem_set_ne (fun e => hij e.symm)]; exact h2⟩
    rcases Nat.lt_or_gt_of_ne hij with hlt' | hgt
    · have := idx_lt hlt' hc
      rw [List.getElem?_append_left (by omega), List.getElem?_take, if_pos this]
      exact h1
    · have hb2 : i * cs.length + cs.length ≤ j * cs.length := by have := Nat.mul_le_mul_right cs.length hgt; rw [Nat.succ_mul] at this; exact this
      rw [List.getElem?_append_right (by omega), hl1, List.getElem?_append_right (by rw [k.1]; omega), List.getElem?_drop, k.1, show i * cs.length + cs.length + (j * cs.length + c - i * cs.length - cs.length) = j * cs.length + c by omega]
      exact h1
theorem RowT.setc {M : Mem} {cs : List CT} {ts : List TV} {xs : List Value} {y : TV} {u : Value} (h : RowT M true cs ts xs) {i c : Nat} (hi : i < ts.length) (hc : c < cs.length) (k : RepT M cs[c] y u) :
    RowT M true cs (ts.set i (.agg ((List.range cs.length).map fun j => if j = c then y else ts[i].cell j))) (xs.set (i * cs.length + c) u) := by
  have hlt0 := idx_lt hi hc
  refine ⟨by simp [h.1], fun j hj d hd => ?_⟩
  rw [List.length_set] at hj
  have hlt := idx_lt hj hd
  obtain ⟨v, h1, h2⟩ := h.2 j hj d hd
  by_cases hij : j = i
  · subst hij
    have hcell : elemCell true (TV.agg ((List.range cs.length).map fun k => if k = c then y else ts[j].cell k)) d = if d = c then y else ts[j].cell d := by
      simp only [elemCell, if_true, TV.cell, cells_agg, List.getD_eq_getElem?_getD, List.getElem?_map, List.getElem?_range hd, Option.map_some, Option.getD_some]
    by_cases hdc : d = c
    · subst hdc
      refine ⟨u, get_set_self h1, ?_⟩
      rw [List.getElem_set_self, hcell, if_pos rfl]
      exact k
    · refine ⟨v, by rw [get_set_ne (by omega)]; exact h1, ?_⟩
      rw [List.getElem_set_self, hcell, if_neg hdc]
      exact h2
  · refine ⟨v, ?_, by rw [List.getElem_set_ne (fun e => hij e.symm)]; exact h2⟩
    rw [get_set_ne]
    · exact h1
    · intro e
      rcases Nat.lt_or_gt_of_ne hij with hlt' | hgt
      · have hb2 : j * cs.length + cs.length ≤ i * cs.length := by have := Nat.mul_le_mul_right cs.length hlt'; rw [Nat.succ_mul] at this; exact this
        omega
      · have hb2 : i * cs.length + cs.length ≤ j * cs.length := by have := Nat.mul_le_mul_right cs.length hgt; rw [Nat.succ_mul] at this; exact this
        omega

def storeRow (hp : List Blk) (b ver : Nat) (ag : Bool) (cs : List CT) (fr : Bool) (f : E → E) : Option Out := match hp[b]? with
  | some blk => match blk.cont with
    | .row e => if blk.own && Nat.beq blk.ver ver && (blk.ag == ag) && ctsEq blk.cs cs then some ⟨[], .sc .undef, hp.set b { blk with cont := .row (f e), fr := blk.fr && fr }, true⟩ else none
    | _ => none
  | none => none
def sStore (P : Program) (st : SS) (t : TypeId) (p : SC) (x : SV) : Option Out := match p, x.cells with
  | .ptr b ver i c, some cells => if sizeB P t cells.length && cells.all SC.one then (match st.heap[b]? with
    | some blk => if Nat.beq blk.ver ver then (match blk.cont with
      | .box cs => if Nat.ble (c + cells.length) cs.length then some ⟨[], .sc .undef, st.heap.set b { blk with cont := .box (sSplice cs cells c) }, true⟩ else none
      | .row _ => if Nat.beq c 0 && Nat.beq cells.length blk.cs.length then (match reifyCs st.heap blk.cs cells with
          | some (fr, es, hp) => match elemOfEs blk.ag es with
            | some y => storeRow hp b ver blk.ag blk.cs fr fun e => .o3 .set e i y
            | none => none
          | none => none)
        else if blk.ag then (match blk.cs[c]?, cells with
          | some ct, [s] => match reify st.heap ct s with
            | some (fr, y, hp) => storeRow hp b ver true blk.cs fr fun e => .o3 .set e i (.o2 (.setc c blk.cs.length) (.o2 .idx e i) y)
            | none => none
          | _, _ => none)
        else none
      | .dead => none) else none
    | none => none) else none
  | _, _ => none

theorem run_storeVar {t : TypeId} {g o : Nat} {v : Value} {cur : Array Value} {e : TypeId} (hs : sizeP P t = some v.cells.size) (hg : w.heap[g]? = some (.cells cur e (0, 0))) (hfit : o + v.cells.size ≤ cur.size) (h1 : ∀ u ∈ v.cells.toList, u.oneCell' = true) :
    (Instr.storeAt t (.pointer (some ⟨g, o, none⟩)) v).run P w = .ok () (w.setRow g (cur.toList.take o ++ (v.cells.toList ++ cur.toList.drop (o + v.cells.size))).toArray) := by
  have h := run_storeCells_at (P := P) g o e v.cells.toList 0 cur w hg (by simpa using hfit) h1
  simp only [Nat.add_zero, Array.length_toList, List.append_assoc] at h
  simp only [Instr.storeAt, Instr.sureAddr, storeVar, Sem.run_bind, Sem.run_pure, Result.andThen_ok, run_sizeOf hs, ne_eq, not_true_eq_false, if_false, h]

theorem set_self {α : Type} {l : List α} {i : Nat} {x : α} (h : l[i]? = some x) : l.set i x = l := by
  apply List.ext_getElem?
  intro j
  by_cases e : j = i
  · subst e; rw [get_set_self h, h]
  · rw [get_set_ne e]

/-- What a store gives: no value. -/
def DoneU (P : Program) (Γ : CEnv) (gt : GT) (ρ : List TV) (B : Nat) (st : SS) (vss : List (Array Value)) (w : World) (out : Out) (res : Result Unit) : Prop :=
  ∃ as' G' w', res = .ok () w' ∧ Rel Γ gt ρ B G' { st with heap := out.heap } as' vss w' ∧ out.val = .sc .undef ∧ Below B w w' ∧ out.wr = true

theorem below_setRow (hB : B ≤ w.heap.size) {g : Nat} (hg : B ≤ g) (cs : Array Value) : Below B w (w.setRow g cs) :=
  ⟨rfl, rfl, rfl, by simp, fun k hk => setRow_other w g k cs (by omega)⟩

theorem splice_take {α : Type} (l v : List α) (o m : Nat) (h1 : o + v.length ≤ m) (h2 : m ≤ l.length) : (l.take o ++ (v ++ l.drop (o + v.length))).take m = (l.take m).take o ++ (v ++ (l.take m).drop (o + v.length)) := by
  have e1 : (l.take o).length = o := by rw [List.length_take]; omega
  rw [List.take_append, List.take_append, e1, List.take_of_length_le (l := l.take o) (by omega), List.take_of_length_le (l := v) (by omega), List.take_take, Nat.min_eq_left (by omega), List.drop_take, show m - o - v.length = m - (o + v.length) by omega]
theorem BlkRel.ownRow {hp : List Blk} {as : List Value} {M Mf : Mem} {blk : Blk} {va : Value} {e : E} (hc : blk.cont = .row e) (ho : blk.own = true)
    (h : ∃ xs, w.ownsRow B blk.ety blk.cs.length va (e.den Γ ρ).asList.length xs ∧ RowT (pick M Mf blk.fr) blk.ag blk.cs (e.den Γ ρ).asList xs) : BlkRel Γ ρ hp as M Mf B w blk va := by
  unfold BlkRel
  rw [hc]
  dsimp only
  rw [if_pos ho]
  exact h
theorem store_row (r : Rel Γ gt ρ B G st as vss w) {b ver : Nat} {ag fr : Bool} {cs : List CT} {f : E → E} {out : Out} (h : storeRow st.heap b ver ag cs fr f = some out) {i : E} {c : Nat} {v x : Value} (hp : RepPtr Γ ρ st.heap as b ver (i.den Γ ρ).asInt c v) {t : TypeId}
    (hs : sizeP P t = some x.cells.size) (h1 : ∀ u ∈ x.cells.toList, u.oneCell' = true) (hfit : c + x.cells.size ≤ cs.length)
    (hlen : ∀ e, ((f e).den Γ ρ).asList.length = (e.den Γ ρ).asList.length)
    (hrow : ∀ (e : E) (fr0 : Bool) (xs : List Value) (hi : (i.den Γ ρ).asInt.toNat < (e.den Γ ρ).asList.length), 0 ≤ (i.den Γ ρ).asInt → RowT (pick (stable w G) (fresh w G B) (fr0 && fr)) ag cs (e.den Γ ρ).asList xs →
      RowT (pick (stable w G) (fresh w G B) (fr0 && fr)) ag cs ((f e).den Γ ρ).asList (xs.take ((i.den Γ ρ).asInt.toNat * cs.length + c) ++ (x.cells.toList ++ xs.drop ((i.den Γ ρ).asInt.toNat * cs.length + c + x.cells.size)))) :
    DoneU P Γ gt ρ B st vss w out ((Instr.storeAt t v x).run P w) := by
  unfold storeRow at h
  split at h
  · rename_i blk hb
    split at h
    · rename_i e hc
      split at h
      · rename_i hcond
        simp only [Bool.and_eq_true, beq_iff_eq] at hcond
        obtain ⟨⟨⟨ho, hv⟩, hag⟩, hcs⟩ := hcond
        have hcs := ctsEq_eq hcs
        subst hag hcs
        simp only [Option.some.injEq] at h
        subst h
        obtain ⟨blk0, va, g1, g2, g3, g4⟩ := hp
        rw [hb] at g1
        injection g1 with g1
        subst g1
        obtain ⟨n, g, k1, k2, k3, k4, k5⟩ := g4 (Nat.eq_of_beq_eq_true hv)
        simp only [Blk.len, hc, Option.some.injEq] at k1
        simp only [Blk.size, hc] at k5
        subst k1
        have hbr := r.blks b blk va hb g2
        unfold BlkRel at hbr
        rw [hc] at hbr
        dsimp only at hbr
        rw [if_pos ho] at hbr
        obtain ⟨xs, hown, hrt⟩ := hbr
        rcases hown.2 with ⟨e0, _⟩ | ⟨g', cap, cur, e0, hB, hg, hle, hmax, hsz, htk⟩
        · rw [e0] at k4; cases k4
        · rw [e0] at k4
          injection k4 with k4
          simp only at k4
          subst k4
          have hi : (i.den Γ ρ).asInt.toNat < (e.den Γ ρ).asList.length := by omega
          have hlt : (i.den Γ ρ).asInt.toNat * blk.cs.length + blk.cs.length ≤ (e.den Γ ρ).asList.length * blk.cs.length := by have := Nat.mul_le_mul_right blk.cs.length hi; rw [Nat.succ_mul] at this; exact this
          have hcap : (e.den Γ ρ).asList.length * blk.cs.length ≤ cur.size := by rw [hsz]; exact Nat.mul_le_mul_right _ hle
          have hrun := run_storeVar (P := P) (w := w) (o := (i.den Γ ρ).asInt.toNat * blk.cs.length + c) hs hg (by omega) h1
          rw [k5]
          have hlive : blk.live = true := by simp [Blk.live, hc, ho]
          have hgB : B ≤ g' ∧ g' < w.heap.size := ⟨hB, (Array.getElem?_eq_some_iff.1 hg).1⟩
          have hturn := r.turn (b := b) (blk := blk) (blk' := { blk with cont := .row (f e), fr := blk.fr && fr }) (va := va) (va' := va) hb g2 hlive (by simp [Blk.live, ho]) (w' := w.setRow g' (cur.toList.take ((i.den Γ ρ).asInt.toNat * blk.cs.length + c) ++ (x.cells.toList ++ cur.toList.drop ((i.den Γ ρ).asInt.toNat * blk.cs.length + c + x.cells.size))).toArray)
            (Nat.le_refl _) (fun _ => ⟨rfl, by simp only [Blk.size, hc], by simp only [Blk.len, hc, hlen], fun e h => ⟨_, rfl⟩⟩) (by simp) (fun k hk hne => setRow_other w g' k _ (fun e => by rw [e0] at hne; exact hne (by rw [e]; rfl)))
            (fun g hg' => by rw [e0] at hg'; injection hg' with hg'; simp only at hg'; subst hg'; exact ⟨hB, by simpa using hgB.2, .inl (by rw [e0]; rfl)⟩) ?_
          · rw [set_self g2] at hturn
            exact ⟨_, _, _, hrun, hturn, rfl, below_setRow r.base hB _, rfl⟩
          · intro G' hp' as' tr hm hmf
            have hpa : Mem.le (pick (stable w G) (fresh w G B) blk.fr) (pick (stable w G) (fresh w G B) (blk.fr && fr)) := (pick_and (fresh_le w G B) blk.fr fr).1
            have hnew := hrow e blk.fr xs hi k2 (hrt.mono hpa)
            refine BlkRel.ownRow rfl ho ⟨xs.take ((i.den Γ ρ).asInt.toNat * blk.cs.length + c) ++ (x.cells.toList ++ xs.drop ((i.den Γ ρ).asInt.toNat * blk.cs.length + c + x.cells.size)), ⟨?_, .inr ⟨g', cap, _, ?_, hB, setRow_heap w g' cur _ blk.ety (0, 0) hg, by rw [hlen]; exact hle, hmax, ?_, ?_⟩⟩, hnew.mono (pick_le hm hmf _)⟩
            · exact hnew.1
            · rw [hlen]; exact e0
            · simp only [List.size_toArray, List.length_append, List.length_take, List.length_drop, Array.length_toList]
              omega
            · rw [hlen, ← htk]
              have := splice_take cur.toList x.cells.toList ((i.den Γ ρ).asInt.toNat * blk.cs.length + c) ((e.den Γ ρ).asList.length * blk.cs.length) (by simp; omega) (by simp; omega)
              simp only [Array.length_toList] at this
              exact this
      · cases h
    · cases h
  · cases h

theorem sSplice_length {cells v : List SC} {off : Nat} (h : off + v.length ≤ cells.length) : (sSplice cells v off).length = cells.length := by
  unfold sSplice
  simp only [List.length_append, List.length_take, List.length_drop]
  omega
theorem store_box (r : Rel Γ gt ρ B G st as vss w) {b ver : Nat} {i : E} {c : Nat} {v x : Value} (hp : RepPtr Γ ρ st.heap as b ver (i.den Γ ρ).asInt c v) {t : TypeId} {blk : Blk} {cs cells : List SC} (hb : st.heap[b]? = some blk) (hv : blk.ver = ver) (hc : blk.cont = .box cs)
    (hs : sizeP P t = some x.cells.size) (h1 : ∀ u ∈ x.cells.toList, u.oneCell' = true) (hfit : c + cells.length ≤ cs.length) (hx : RepCs Γ ρ st.heap as (stable w G) (fresh w G B) cells x.cells.toList) :
    DoneU P Γ gt ρ B st vss w ⟨[], .sc .undef, st.heap.set b { blk with cont := .box (sSplice cs cells c) }, true⟩ ((Instr.storeAt t v x).run P w) := by
  obtain ⟨blk0, va, g1, g2, g3, g4⟩ := hp
  rw [hb] at g1
  injection g1 with g1
  subst g1
  obtain ⟨n, g, k1, k2, k3, k4, k5⟩ := g4 hv
  simp only [Blk.len, hc, Option.some.injEq] at k1
  simp only [Blk.size, hc] at k5
  subst k1
  have hi0 : (i.den Γ ρ).asInt.toNat = 0 := by omega
  rw [hi0, Nat.zero_mul, Nat.zero_add] at k5
  have hbr := r.blks b blk va hb g2
  unfold BlkRel at hbr
  rw [hc] at hbr
  dsimp only at hbr
  obtain ⟨g', cur, e0, hB, hg, hcs⟩ := hbr
  rw [e0] at k4
  injection k4 with k4
  simp only at k4
  subst k4
  have hlc : cur.size = cs.length := by have := hcs.1; simp at this; omega
  have hlx : x.cells.size = cells.length := by have := hx.1; simp at this; omega
  have hrun := run_storeVar (P := P) (w := w) (o := c) hs hg (by omega) h1
  rw [k5]
  have hlive : blk.live = true := by simp [Blk.live, hc]
  have hturn := r.turn (b := b) (blk := blk) (blk' := { blk with cont := .box (sSplice cs cells c) }) (va := va) (va' := va) hb g2 hlive rfl (w' := w.setRow g' (cur.toList.take c ++ (x.cells.toList ++ cur.toList.drop (c + x.cells.size))).toArray)
    (Nat.le_refl _) (fun _ => ⟨rfl, by simp only [Blk.size, hc, sSplice_length hfit], by simp only [Blk.len, hc], fun e h => by rw [hc] at h; cases h⟩) (by simp) (fun k hk hne => setRow_other w g' k _ (fun e => by rw [e0] at hne; exact hne (by rw [e]; rfl)))
    (fun g hg' => by rw [e0] at hg'; injection hg' with hg'; simp only at hg'; subst hg'; exact ⟨hB, by simpa using (Array.getElem?_eq_some_iff.1 hg).1, .inl (by rw [e0]; rfl)⟩) ?_
  · rw [set_self g2] at hturn
    exact ⟨_, _, _, hrun, hturn, rfl, below_setRow r.base hB _, rfl⟩
  · intro G' hp' as' tr hm hmf
    refine ⟨g', _, e0, hB, setRow_heap w g' cur _ blk.ety (0, 0) hg, ?_⟩
    simp only [sSplice]
    have := (hcs.take c).append (hx.append (hcs.drop (c + cells.length)))
    rw [← hlx] at this
    have h9 := RepCs.tr tr hm hmf this
    rw [← hlx]
    exact h9

theorem sStore_sound (r : Rel Γ gt ρ B G st as vss w) {t : TypeId} {p : SC} {x : SV} {out : Out} {v u : Value} (h : sStore P st t p x = some out) (hp : RepC Γ ρ st.heap as (stable w G) (fresh w G B) p v) (hx : RepV Γ ρ st.heap as (stable w G) (fresh w G B) x u) :
    DoneU P Γ gt ρ B st vss w out ((Instr.storeAt t v u).run P w) := by
  unfold sStore at h
  split at h
  · rename_i b ver i c cells hcells
    have hcr := cells_rep hcells hx
    have hlen : u.cells.size = cells.length := by have := hcr.1; simp at this; omega
    split at h
    · rename_i hcond
      simp only [Bool.and_eq_true] at hcond
      have hs : sizeP P t = some u.cells.size := by rw [hlen]; exact sizeB_eq hcond.1
      have h1 := all_one hcr hcond.2
      split at h
      · rename_i blk hb
        split at h
        · rename_i hv
          split at h
          · rename_i cs hc
            split at h
            · rename_i hfit
              simp only [Option.some.injEq] at h
              subst h
              exact store_box r hp.2 hb (Nat.eq_of_beq_eq_true hv) hc hs h1 (by simpa using hfit) hcr
            · cases h
          · rename_i e0 hc
            split at h
            · rename_i hw
              simp only [Bool.and_eq_true, Nat.beq_eq] at hw
              obtain ⟨rfl, hcl⟩ := hw
              split at h
              · rename_i fr es hp1 hre
                split at h
                · rename_i y hy
                  obtain ⟨G1, l1, a1, a2, a3⟩ := reifyCs_sound r hre hcr
                  have hcellsT := elem_cells hy a1 a2 a3
                  obtain ⟨as2, G2, w2, b1, b2, b3, b4, b5⟩ := store_row l1.rel h (RepPtr.tr l1.tr hp.2) hs h1 (by omega) (fun e => by simp only [E.den, P3.den, asList_list, List.length_set]) (fun e fr0 xs hi h0 hr => by
                    have hpa : Mem.le (pick (stable w G1) (fresh w G1 B) fr) (pick (stable w G1) (fresh w G1 B) (fr0 && fr)) := (pick_and (fresh_le w G1 B) fr0 fr).2
                    have := RowT.set hr (hcellsT.mono hpa) hi
                    simp only [E.den, P3.den, asList_list, Nat.add_zero]
                    rw [Array.length_toList] at this
                    exact this)
                  exact ⟨as2, G2, w2, b1, b2, b3, b4, b5⟩
                · cases h
              · cases h
            · split at h
              · rename_i hag
                split at h
                · rename_i ct s hct _
                  split at h
                  · rename_i fr y hp1 hre
                    obtain ⟨u0, hu0⟩ : ∃ u0, u.cells.toList = [u0] := by
                      have := hcr.1
                      cases hl : u.cells.toList with
                      | nil => rw [hl] at this; simp at this
                      | cons z zs => cases zs with
                        | nil => exact ⟨z, rfl⟩
                        | cons _ _ => rw [hl] at this; simp at this
                    rw [hu0] at hcr
                    obtain ⟨G1, l1, a1⟩ := reify_sound r hre (hcr.2 0 _ _ rfl rfl)
                    have hcl := (List.getElem?_eq_some_iff.1 hct).1
                    have hct' : blk.cs[c] = ct := (List.getElem?_eq_some_iff.1 hct).2
                    have hus : u.cells.size = 1 := by rw [hlen]; rfl
                    obtain ⟨as2, G2, w2, b1, b2, b3, b4, b5⟩ := store_row l1.rel h (RepPtr.tr l1.tr hp.2) hs h1 (by omega) (fun e => by simp only [E.den, P3.den, asList_list, List.length_set]) (fun e fr0 xs hi h0 hr => by
                      have hpa : Mem.le (pick (stable w G1) (fresh w G1 B) fr) (pick (stable w G1) (fresh w G1 B) (fr0 && fr)) := (pick_and (fresh_le w G1 B) fr0 fr).2
                      have := RowT.setc (y := y.den Γ ρ) (u := u0) hr hi hcl (by rw [hct']; exact a1.mono hpa)
                      have hlt := idx_lt hi hcl
                      have hsp : xs.take ((i.den Γ ρ).asInt.toNat * blk.cs.length + c) ++ (u.cells.toList ++ xs.drop ((i.den Γ ρ).asInt.toNat * blk.cs.length + c + u.cells.size)) = xs.set ((i.den Γ ρ).asInt.toNat * blk.cs.length + c) u0 := by
                        rw [hu0, hus, List.set_eq_take_append_cons_drop, if_pos (by rw [hr.1]; exact hlt)]
                        rfl
                      rw [hsp]
                      have hidx : (E.o2 .idx e i).den Γ ρ = (e.den Γ ρ).asList[(i.den Γ ρ).asInt.toNat] := idx_den h0 (by omega)
                      simp only [E.den, P3.den, P2.den, asList_list] at hidx ⊢
                      rw [hidx]
                      exact this)
                    exact ⟨as2, G2, w2, b1, b2, b3, b4, b5⟩
                  · cases h
                · cases h
              · cases h
          · cases h
        · cases h
      · cases h
    · cases h
  · cases h
end
end Go.Proofs.YtccpepheooleoaaDoor
