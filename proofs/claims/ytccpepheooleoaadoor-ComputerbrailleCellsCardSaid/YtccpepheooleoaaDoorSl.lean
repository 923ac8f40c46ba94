/- Symbolic runs, part l: appends, slices that are made, conversions that make memory; all operations. -/
import Derived.Test.YtccpepheooleoaaDoorSk
namespace Go.Proofs.YtccpepheooleoaaDoor
set_option linter.unusedSimpArgs false
set_option linter.unusedVariables false
set_option linter.unusedSectionVars false
open Go.RowKit

section
variable {Γ : CEnv} {gt : GT} {ρ : List TV} {B : Nat} {G : Nat → Prop} {st : SS} {as : List Value} {vss : List (Array Value)} {w : World} {P : Program}

theorem run_append_where (base : Nat) (t ty e : TypeId) (i : TypeInfo) (z : Value) (size bytes : Nat) (ht : P.underlying t = some (.slice e)) (hi : P.info? e = some i) (hz : i.zero = some z)
    (hsize : i.size = size) (hby : i.bytes = bytes) (hzs : z.cells.size = size) (hsz : 0 < size)
    (v : Value) (n : Nat) (xs : List Value) (hown : w.ownsRow base e size v n xs)
    (a : Addr) (m c : Nat) (news : List Value) (hl : news.length = m * size) (hnews : ∀ (j : Nat) (u : Value), news[j]? = some u → w.cell? (a.add j) = some u) (h1 : ∀ u ∈ news, u.oneCell' = true)
    (h63 : n + m ≤ maxLen) (hbytes : (n + m) * bytes ≤ 140737488355328) (hbase : base ≤ w.heap.size) :
    ∃ v' w', (Builtin.append_ #[t, t] ty #[v, .slice (some a) m c]).run P w = .ok v' w' ∧ w'.ownsRow base e size v' (n + m) (xs ++ news) ∧ w.grownBy w' v.ownBlock ∧
      ∀ g, v'.ownBlock = some g → v.ownBlock = some g ∨ w.heap.size ≤ g := by
  obtain ⟨v', w', hr, h2, h3, h4⟩ := run_append_own (P := P) w base t ty e i z size bytes ht hi hz hsize hby hzs hsz v n xs hown a m c news hl hnews h1 h63 hbytes hbase
  refine ⟨v', w', hr, h2, h3, fun g hg => ?_⟩
  subst hsize hby
  have hm64 : n + m ≤ 9223372036854775807 := by unfold maxLen at h63; omega
  rcases hown.2 with ⟨rfl, rfl⟩ | ⟨g', cap, cur, rfl, hbg, hgg, hnc, hcm, hcs, htake⟩
  · by_cases hm : m = 0
    · have := h4.2 ⟨rfl, hm⟩
      rw [this] at hg
      cases hg
    · have hr2 := run_append_nil (P := P) w t ty e i z ht hi hz a m c news hl hnews (by omega) (by omega) (by have hb := hbytes; simp only [Nat.zero_add] at hb; omega)
      rw [hr] at hr2
      injection hr2 with e1 e2
      rw [e1] at hg
      injection hg with hg
      simp only at hg
      exact .inr (by omega)
  · by_cases hroom : n + m ≤ cap
    · obtain ⟨w2, hr2, _⟩ := run_append_fits (P := P) w base t ty e i i.size ht hi rfl g' n cap xs hown a m c news hl hnews h1 hroom
      rw [hr] at hr2
      injection hr2 with e1 e2
      rw [e1] at hg
      exact .inl hg
    · have holds : ∀ (j : Nat) (u : Value), xs[j]? = some u → w.cell? ((⟨g', 0, none⟩ : Addr).add j) = some u := hown.cells (g := g') rfl
      have hr2 := run_append_grow (P := P) w t ty e i z ht hi hz ⟨g', 0, none⟩ n cap xs hown.1 holds a m c news hl hnews (by omega) (by omega) (growslice_fits (by omega) hbytes)
      rw [hr] at hr2
      injection hr2 with e1 e2
      rw [e1] at hg
      injection hg with hg
      simp only at hg
      exact .inr (by omega)

def bound40 : Int := 1099511627776
def infoB (P : Program) (e : TypeId) (n : Nat) : Bool := match P.info? e with
  | some i => Nat.beq i.size n && Nat.ble i.bytes 128 && Nat.blt 0 n && (match i.zero with
    | some z => Nat.beq z.cells.size n
    | none => false)
  | none => false
theorem infoB_eq {e : TypeId} {n : Nat} (h : infoB P e n = true) : ∃ i z, P.info? e = some i ∧ i.size = n ∧ i.bytes ≤ 128 ∧ 0 < n ∧ i.zero = some z ∧ z.cells.size = n := by
  unfold infoB at h
  split at h
  · rename_i i hi
    split at h
    · rename_i z hz
      simp only [Bool.and_eq_true, Nat.beq_eq, Nat.ble_eq, Nat.blt_eq] at h
      exact ⟨i, z, hi, h.1.1.1, h.1.1.2, h.1.2, hz, h.2⟩
    · simp at h
  · cases h

def sAppend (P : Program) (st : SS) (t t2 : TypeId) (s x : SC) : Option Out := if Nat.beq t t2 then (match P.underlying t with
  | some (.slice e) => match s with
    | .own b ver => match st.heap[b]? with
      | some blk => match blk.cont with
        | .row c => if blk.own && Nat.beq blk.ver ver && Nat.beq blk.ety e && infoB P e blk.cs.length then (match x with
            | .nil => some ⟨[], .sc (.own b ver), st.heap, true⟩
            | x => match rowOf st.heap x with
              | some row => if (row.ag == blk.ag) && ctsEq row.cs blk.cs then some ⟨[mk2 .lei (mk1 .len (mk2 .app c row.e)) (.int bound40)], .sc (.own b (ver + 1)), st.heap.set b { blk with ver := ver + 1, fr := blk.fr && row.fr, cont := .row (mk2 .app c row.e) }, true⟩ else none
              | none => none)
          else none
        | _ => none
      | none => none
    | .nil => match x with
      | .nil => none
      | x => match rowOf st.heap x with
        | some row => if infoB P e row.cs.length then some ⟨[mk2 .lei (mk1 .len row.e) (.int bound40)], .sc (.own st.heap.length 1), st.heap ++ [⟨1, true, row.fr && row.fr, e, row.ag, row.cs, .row row.e⟩], true⟩ else none
        | none => none
    | _ => none
  | _ => none) else none

/-- A row of the call's own that is nil as yet: no memory stands for it. -/
theorem Rel.virt (r : Rel Γ gt ρ B G st as vss w) (fr : Bool) (e : TypeId) (ag : Bool) (cs : List CT) : Rel Γ gt ρ B G { st with heap := st.heap ++ [⟨0, true, fr, e, ag, cs, .row .nil⟩] } (as ++ [.slice none 0 0]) vss w := by
  have tr := Tr.push Γ ρ st.heap as r.alen ⟨0, true, fr, e, ag, cs, .row .nil⟩ (.slice none 0 0)
  have hal := r.alen
  refine r.step _ tr (Mem.le.refl _) (Mem.le.refl _) (by simp [hal]) ?_ ?_ ?_ r.base r.gs
  · intro b k v h1 h2
    rcases get_push h1 with q1 | ⟨e1, f1⟩ <;> rcases get_push h2 with q2 | ⟨e2, f2⟩
    · exact BlkRel.tr tr (Mem.le.refl _) (Mem.le.refl _) (r.blks b k v q1 q2) fun _ _ _ => rfl
    · have := (List.getElem?_eq_some_iff.1 q1).1; omega
    · have := (List.getElem?_eq_some_iff.1 q2).1; omega
    · subst f1 f2
      refine BlkRel.ownRow rfl rfl ⟨[], World.ownsRow_nil _ _ _ _, RowT.nil⟩
  · intro b k v g h1 h2 hl hg
    rcases get_push h1 with q1 | ⟨e1, f1⟩ <;> rcases get_push h2 with q2 | ⟨e2, f2⟩
    · exact r.own b k v g q1 q2 hl hg
    · subst f2; cases hg
    · have := (List.getElem?_eq_some_iff.1 q2).1; omega
    · subst f2; cases hg
  · intro b b' k k' v v' g h1 h2 hl hg h3 h4 hl' hg'
    rcases get_push h1 with q1 | ⟨e1, f1⟩ <;> rcases get_push h2 with q2 | ⟨e2, f2⟩ <;> rcases get_push h3 with q3 | ⟨e3, f3⟩ <;> rcases get_push h4 with q4 | ⟨e4, f4⟩
    all_goals first
      | exact r.dist b b' _ _ _ _ g q1 q2 hl hg q3 q4 hl' hg'
      | (exfalso; subst f2; cases hg; done)
      | (exfalso; subst f4; cases hg'; done)
      | omega
      | (exfalso; have := (List.getElem?_eq_some_iff.1 q2).1; omega)
      | (exfalso; have := (List.getElem?_eq_some_iff.1 q4).1; omega)

theorem gOf_slice {a : Option Addr} {l c : Nat} : gOf (.slice a l c) = (Value.slice a l c).ownBlock := by cases a <;> rfl
theorem RowT.append {M : Mem} {ag : Bool} {cs : List CT} {ts us : List TV} {xs ys : List Value} (h : RowT M ag cs ts xs) (k : RowT M ag cs us ys) : RowT M ag cs (ts ++ us) (xs ++ ys) := by
  refine ⟨by rw [List.length_append, h.1, k.1, List.length_append, Nat.add_mul], fun i hi c hc => ?_⟩
  by_cases hlt : i < ts.length
  · obtain ⟨v, h1, h2⟩ := h.2 i hlt c hc
    refine ⟨v, by rw [List.getElem?_append_left (by rw [h.1]; exact idx_lt hlt hc)]; exact h1, ?_⟩
    rw [List.getElem_append_left hlt]
    exact h2
  · rw [List.length_append] at hi
    obtain ⟨v, h1, h2⟩ := k.2 (i - ts.length) (by omega) c hc
    have hge : ts.length * cs.length ≤ i * cs.length := Nat.mul_le_mul_right _ (by omega)
    refine ⟨v, ?_, ?_⟩
    · rw [List.getElem?_append_right (by rw [h.1]; omega), h.1, show i * cs.length + c - ts.length * cs.length = (i - ts.length) * cs.length + c by rw [Nat.sub_mul]; omega]
      exact h1
    · rw [List.getElem_append_right (by omega)]
      exact h2
theorem RowT.one {M : Mem} {ag : Bool} {cs : List CT} {ts : List TV} {xs : List Value} (h : RowT M ag cs ts xs) : ∀ u ∈ xs, u.oneCell' = true := by
  intro u hu
  obtain ⟨j, hj, rfl⟩ := List.mem_iff_getElem.1 hu
  rw [h.1] at hj
  obtain ⟨i, c, hi, hc, rfl⟩ := idx_split hj
  obtain ⟨v, h1, h2⟩ := h.2 i hi c hc
  have := List.getElem?_eq_getElem (l := xs) (i := i * cs.length + c) (by rw [h.1]; exact hj)
  rw [this] at h1
  injection h1 with h1
  rw [h1]
  exact RepT.one h2

/-- The present row b of the call's own, and elements that are read. -/
theorem append_core (r : Rel Γ gt ρ B G st as vss w) {b : Nat} {blk : Blk} {c : E} {va : Value} (hb : st.heap[b]? = some blk) (hva : as[b]? = some va) (hc : blk.cont = .row c) (ho : blk.own = true) {t ty e : TypeId} (hu : P.underlying t = some (.slice e)) (hety : blk.ety = e)
    (hinfo : infoB P e blk.cs.length = true) {fr : Bool} {us : List TV} {x : Value} (hx : Reads (pick (stable w G) (fresh w G B) fr) w blk.ag blk.cs us x) (hlen : ((c.den Γ ρ).asList.length + us.length : Nat) ≤ bound40) (y : E) (hy : (y.den Γ ρ).asList = (c.den Γ ρ).asList ++ us) :
    ∃ v' G' w', (Builtin.append_ #[t, t] ty #[va, x]).run P w = .ok v' w' ∧ Rel Γ gt ρ B G' { st with heap := st.heap.set b { blk with ver := blk.ver + 1, fr := blk.fr && fr, cont := .row y } } (as.set b v') vss w' ∧ Below B w w' ∧ v'.oneCell' = true := by
  obtain ⟨i, z, hi, hsz, hby, hpos, hz, hzs⟩ := infoB_eq hinfo
  have hbr := r.blks b blk va hb hva
  unfold BlkRel at hbr
  rw [hc] at hbr
  dsimp only at hbr
  rw [if_pos ho] at hbr
  obtain ⟨xs, hown, hrt⟩ := hbr
  have hpa := pick_and (fresh_le w G B) blk.fr fr
  have hb40 : (c.den Γ ρ).asList.length + us.length ≤ 1099511627776 := by unfold bound40 at hlen; omega
  have hlive : blk.live = true := by simp [Blk.live, hc, ho]
  have hgo : gOf va = va.ownBlock := by rcases hown.2 with ⟨rfl, _⟩ | ⟨g, cap, cur, rfl, _⟩ <;> rfl
  obtain ⟨a, cap, news, rfl, hrn, hn, hcl⟩ := hx.load
  have fin : ∀ v' w', w'.ownsRow B blk.ety blk.cs.length v' ((c.den Γ ρ).asList.length + us.length) (xs ++ news) → w.grownBy w' va.ownBlock → (∀ g, v'.ownBlock = some g → va.ownBlock = some g ∨ w.heap.size ≤ g) →
      ∃ G', Rel Γ gt ρ B G' { st with heap := st.heap.set b { blk with ver := blk.ver + 1, fr := blk.fr && fr, cont := .row y } } (as.set b v') vss w' ∧ Below B w w' ∧ v'.oneCell' = true := by
    intro v' w' h2 h3 h4
    have hgo' : gOf v' = v'.ownBlock := by rcases h2.2 with ⟨rfl, _⟩ | ⟨g, cap, cur, rfl, _⟩ <;> rfl
    have ho' : v'.oneCell' = true := by rcases h2.2 with ⟨rfl, _⟩ | ⟨g, cap, cur, rfl, _⟩ <;> rfl
    refine ⟨_, r.turn (b := b) (blk := blk) (blk' := { blk with ver := blk.ver + 1, fr := blk.fr && fr, cont := .row y }) (va := va) (va' := v') hb hva hlive (by simp [Blk.live, ho]) (w' := w') (by simp) (fun h => by simp at h) h3.size
      (fun k hk hne => h3.block k hk (fun h => hne (by rw [hgo]; exact h.symm))) (fun g hg => ?_) ?_, ⟨h3.os, h3.tape, h3.output, h3.size, fun k hk => h3.block k (Nat.lt_of_lt_of_le hk r.base) (fun h => ?_)⟩, ho'⟩
    · rw [hgo'] at hg
      have hl := h2.lt g hg
      refine ⟨hl.1, hl.2, ?_⟩
      rw [hgo]
      exact h4 g hg
    · intro G' hp' as' tr hm hmf
      refine BlkRel.ownRow rfl ho ⟨xs ++ news, by rw [hy, List.length_append]; exact h2, ?_⟩
      rw [hy]
      exact ((hrt.mono hpa.1).append (hrn.mono hpa.2)).mono (pick_le hm hmf _)
    · have := hown.lt k h.symm
      omega
  cases a with
  | none =>
    obtain ⟨rfl, rfl⟩ := hn rfl
    have hcap : cap = 0 := by
      obtain ⟨a', cap', _, e1, _, _, e2, _⟩ := hx
      injection e1 with e1 e3 e4
      rw [e4]; exact e2 e1.symm
    subst hcap
    have hr := run_append_owned_none (P := P) w B t ty e i blk.cs.length hu hi va _ xs (by rw [← hety]; exact hown)
    obtain ⟨G', k1, k2, k3⟩ := fin va w (by simpa using hown) ⟨rfl, rfl, rfl, Nat.le_refl _, fun _ _ _ => rfl⟩ (fun g hg => .inl hg)
    exact ⟨va, G', w, hr, k1, k2, k3⟩
  | some ad =>
    obtain ⟨v', w', hr, h2, h3, h4⟩ := run_append_where (P := P) (w := w) B t ty e i z blk.cs.length i.bytes hu hi hz hsz rfl hzs hpos va _ xs (by rw [← hety]; exact hown) ad us.length cap news hrn.1 (hcl ad rfl) hrn.one (by unfold maxLen; omega)
      (by have := Nat.mul_le_mul hb40 hby; omega) r.base
    obtain ⟨G', k1, k2, k3⟩ := fin v' w' (by rw [hety]; exact h2) h3 h4
    exact ⟨v', G', w', hr, k1, k2, k3⟩

theorem sAppend_sound (r : Rel Γ gt ρ B G st as vss w) {t t2 ty : TypeId} {s x : SC} {out : Out} {v u : Value} (h : sAppend P st t t2 s x = some out) (hs : RepC Γ ρ st.heap as (stable w G) (fresh w G B) s v) (hx : RepC Γ ρ st.heap as (stable w G) (fresh w G B) x u) (hq : Holds Γ ρ out.req) :
    Done P Γ gt ρ B st vss w out ((Builtin.append_ #[t, t2] ty #[v, u]).run P w) ∧ out.wr = true := by
  unfold sAppend at h
  split at h
  · rename_i ht
    obtain rfl := Nat.eq_of_beq_eq_true ht
    split at h
    · rename_i e hu
      split at h
      · rename_i b ver
        split at h
        · rename_i blk hb
          split at h
          · rename_i c hc
            split at h
            · rename_i hcond
              simp only [Bool.and_eq_true] at hcond
              obtain ⟨⟨⟨ho, hv⟩, hety⟩, hinfo⟩ := hcond
              obtain ⟨hone, blk0, va, g1, g2, g3, g4⟩ := hs
              rw [hb] at g1
              injection g1 with g1
              subst g1
              have hver := Nat.eq_of_beq_eq_true hv
              have hety := Nat.eq_of_beq_eq_true hety
              obtain ⟨rfl, _⟩ := g4 hver
              split at h
              · simp only [Option.some.injEq] at h
                subst h
                simp only [RepC] at hx
                subst hx
                obtain ⟨i, z, hi, hsz, hby, hpos, hz, hzs⟩ := infoB_eq hinfo
                have hbr := r.blks b blk v hb g2
                unfold BlkRel at hbr
                rw [hc] at hbr
                dsimp only at hbr
                rw [if_pos ho] at hbr
                obtain ⟨xs, hown, hrt⟩ := hbr
                have hr := run_append_owned_none (P := P) w B t ty e i blk.cs.length hu hi v _ xs (by rw [← hety]; exact hown)
                exact ⟨⟨v, as, G, w, hr, r, ⟨hone, blk, v, hb, g2, g3, fun _ => ⟨rfl, c, hc⟩⟩, Below.refl _ _, fun h => by cases h⟩, rfl⟩
              · split at h
                · rename_i row hrow
                  split at h
                  · rename_i hcs
                    simp only [Bool.and_eq_true, beq_iff_eq] at hcs
                    simp only [Option.some.injEq] at h
                    subst h
                    have hread := rowOf_reads r hrow hx
                    rw [hcs.1, ctsEq_eq hcs.2] at hread
                    have hq1 := le_den (holds_one hq)
                    rw [len_den, mk2_den] at hq1
                    simp only [P2.den, asList_list, List.length_append, E.den, asInt_int] at hq1
                    obtain ⟨v', G', w', h1, h2, h3, h4⟩ := append_core (P := P) (ty := ty) r hb g2 hc ho hu hety hinfo hread hq1 (mk2 .app c row.e) (by rw [mk2_den]; rfl)
                    rw [hver] at h2
                    refine ⟨⟨v', _, G', w', h1, h2, ⟨h4, _, v', get_set_self hb, get_set_self g2, Nat.le_refl _, fun _ => ⟨rfl, _, rfl⟩⟩, h3, fun h => by cases h⟩, rfl⟩
                  · cases h
                · cases h
            · cases h
          · cases h
        · cases h
      · simp only [RepC] at hs
        subst hs
        split at h
        · cases h
        · split at h
          · rename_i row hrow
            split at h
            · rename_i hinfo
              simp only [Option.some.injEq] at h
              subst h
              have hread := rowOf_reads r hrow hx
              have hq1 := le_den (holds_one hq)
              rw [len_den] at hq1
              simp only [E.den, asInt_int] at hq1
              have rv := r.virt row.fr e row.ag row.cs
              have hal := r.alen
              have g1 : (st.heap ++ [(⟨0, true, row.fr, e, row.ag, row.cs, .row .nil⟩ : Blk)])[st.heap.length]? = some ⟨0, true, row.fr, e, row.ag, row.cs, .row .nil⟩ := by simp
              have g2 : (as ++ [Value.slice none 0 0])[st.heap.length]? = some (.slice none 0 0) := by rw [← hal]; simp
              obtain ⟨v', G', w', h1, h2, h3, h4⟩ := append_core (P := P) (ty := ty) rv g1 g2 rfl rfl hu rfl hinfo hread (by simpa [E.den, asList_list] using hq1) row.e (by simp [E.den, asList_list])
              have e1 : (st.heap ++ [(⟨0, true, row.fr, e, row.ag, row.cs, .row .nil⟩ : Blk)]).set st.heap.length ⟨1, true, row.fr && row.fr, e, row.ag, row.cs, .row row.e⟩ = st.heap ++ [⟨1, true, row.fr && row.fr, e, row.ag, row.cs, .row row.e⟩] := by
                rw [List.set_append_right _ _ (Nat.le_refl _)]; simp
              have h2' : Rel Γ gt ρ B G' { st with heap := st.heap ++ [⟨1, true, row.fr && row.fr, e, row.ag, row.cs, .row row.e⟩] } ((as ++ [Value.slice none 0 0]).set st.heap.length v') vss w' := by rw [← e1]; exact h2
              exact ⟨⟨v', _, G', w', h1, h2', ⟨h4, ⟨1, true, row.fr && row.fr, e, row.ag, row.cs, .row row.e⟩, v', List.getElem?_concat_length, get_set_self g2, Nat.le_refl _, fun _ => ⟨rfl, row.e, rfl⟩⟩, h3, fun h => by cases h⟩, rfl⟩
            · cases h
          · cases h
      · cases h
    · cases h
  · cases h

/-! ### Slices that are made -/
def sMake (P : Program) (st : SS) (t : TypeId) (l c : SC) : Option Out := match P.underlying t, l, c with
  | some (.slice e), .int _ n, .int _ m => match shapeP P 12 e, zeroP P e with
    | some (ag, cts), some z => if infoB P e cts.length && Nat.beq z.length cts.length then (match reifyCs st.heap cts z with
      | some (fr, es, hp) => match elemOfEs ag es with
        | some y => some (newRow st [mk2 .lei (.int 0) n, mk2 .lei n m, mk2 .lei m (.int bound40)] hp fr e ag cts (mk2 .repl n y))
        | none => none
      | none => none) else none
    | _, _ => none
  | _, _, _ => none
theorem RowT.rep {M : Mem} {ag : Bool} {cs : List CT} {t : TV} {zs : List Value} (h : CellsT M ag cs t zs) (n : Nat) : RowT M ag cs (List.replicate n t) ((List.replicate n zs).flatten) := by
  induction n with
  | zero => exact RowT.nil
  | succ n ih => exact RowT.cons h ih
theorem madeCells_eq (z : Array Value) (hz : 0 < z.size) (n : Nat) : (madeCells z (n * z.size)).toList = (List.replicate n z.toList).flatten := by
  apply List.ext_getElem?
  intro j
  have hl : ((List.replicate n z.toList).flatten).length = n * z.size := by simp
  by_cases hj : j < n * z.size
  · obtain ⟨i, c, hi, hc, rfl⟩ := idx_split hj
    have h1 : (madeCells z (n * z.size)).toList[i * z.size + c]? = some z[c] := by
      simp only [madeCells, Array.toList_map, List.getElem?_map]
      have hr' : (Array.range (n * z.size)).toList[i * z.size + c]? = some (i * z.size + c) := by simp [hj]
      rw [hr']
      simp only [Option.map_some, Option.some.injEq]
      have : (i * z.size + c) % z.size = c := by rw [Nat.mul_comm, Nat.mul_add_mod]; exact Nat.mod_eq_of_lt hc
      rw [this]
      exact getElem!_pos z c hc
    rw [h1]
    clear h1 hj hl
    induction n generalizing i with
    | zero => omega
    | succ n ih =>
      rw [List.replicate_succ, List.flatten_cons]
      cases i with
      | zero => rw [List.getElem?_append_left (by simp; omega)]; simp [hc]
      | succ i =>
        rw [List.getElem?_append_right (by simp [Nat.add_mul]; omega)]
        have := ih i (by omega)
        simp only [Array.length_toList]
        rw [show (i + 1) * z.size + c - z.size = i * z.size + c by rw [Nat.add_mul]; omega]
        exact this
  · rw [List.getElem?_eq_none (by simp [size_madeCells]; omega), List.getElem?_eq_none (by omega)]
theorem sMake_sound (r : Rel Γ gt ρ B G st as vss w) {t : TypeId} {l c : SC} {out : Out} {v u : Value} (h : sMake P st t l c = some out) (hl : RepC Γ ρ st.heap as (stable w G) (fresh w G B) l v) (hc : RepC Γ ρ st.heap as (stable w G) (fresh w G B) c u) (hq : Holds Γ ρ out.req) :
    Done P Γ gt ρ B st vss w out ((Instr.makeSlice t v u).run P w) := by
  unfold sMake at h
  split at h
  · rename_i e kl n kc m hu
    split at h
    · rename_i ag cts z hsh hz
      split at h
      · rename_i hcond
        simp only [Bool.and_eq_true, Nat.beq_eq] at hcond
        split at h
        · rename_i fr es hp hre
          split at h
          · rename_i y hy
            simp only [Option.some.injEq] at h
            subst h
            simp only [RepC] at hl hc
            subst hl hc
            obtain ⟨i, zv, hi, hsz, hby, hpos, hz0, hzs⟩ := infoB_eq hcond.1
            unfold zeroP at hz
            rw [hi] at hz
            simp only [Option.bind_some, hz0, Option.map_some, Option.some.injEq] at hz
            have hq1 := le_den (hq (mk2 .lei (.int 0) n) (by simp [newRow]))
            have hq2 := le_den (hq (mk2 .lei n m) (by simp [newRow]))
            have hq3 := le_den (hq (mk2 .lei m (.int bound40)) (by simp [newRow]))
            have hq1 : 0 ≤ (n.den Γ ρ).asInt := hq1
            have hq3 : (m.den Γ ρ).asInt ≤ 1099511627776 := hq3
            obtain ⟨G', lt, a1, a2, a3⟩ := reifyCs_sound (vs := zv.cells.toList) r hre (by rw [← hz]; exact RepCs_ofConst _ _ _ _ _)
            have hcells := elem_cells hy a1 a2 a3
            have hb : (i.bytes : Int) * (m.den Γ ρ).asInt ≤ 281474976710656 := by
              have h0 : 0 ≤ (m.den Γ ρ).asInt := by omega
              have : (i.bytes : Int) * (m.den Γ ρ).asInt ≤ 128 * (m.den Γ ρ).asInt := Int.mul_le_mul_of_nonneg_right (by omega) h0
              omega
            rw [run_make w t e i zv hu hi hz0 kl kc _ _ hq1 hq2 hb (by omega)]
            have hden : ((mk2 .repl n y).den Γ ρ).asList = List.replicate (n.den Γ ρ).asInt.toNat (y.den Γ ρ) := by rw [mk2_den]; rfl
            have hrow := RowT.rep hcells (n.den Γ ρ).asInt.toNat
            have hle : (n.den Γ ρ).asInt.toNat ≤ (m.den Γ ρ).asInt.toNat := by omega
            refine done_row (P := P) (xs := (List.replicate (n.den Γ ρ).asInt.toNat zv.cells.toList).flatten) r lt rfl rfl rfl rfl (by rw [hden]; simp) (by rw [hden]; exact hrow) hle (by unfold maxLen; omega) (by rw [size_madeCells, hsz]) ?_
            rw [hsz, ← hzs, madeCells_eq _ (by rw [hzs]; exact hpos)]
            have hlen : ((List.replicate (n.den Γ ρ).asInt.toNat zv.cells.toList).flatten).length = (n.den Γ ρ).asInt.toNat * zv.cells.size := by simp
            have hsplit : List.replicate (m.den Γ ρ).asInt.toNat zv.cells.toList = List.replicate (n.den Γ ρ).asInt.toNat zv.cells.toList ++ List.replicate ((m.den Γ ρ).asInt.toNat - (n.den Γ ρ).asInt.toNat) zv.cells.toList := by
              rw [List.replicate_append_replicate]; congr 1; omega
            rw [hsplit, List.flatten_append, ← hlen, List.take_left]
          · cases h
        · cases h
      · cases h
    · cases h
  · cases h
end
end Go.Proofs.YtccpepheooleoaaDoor
