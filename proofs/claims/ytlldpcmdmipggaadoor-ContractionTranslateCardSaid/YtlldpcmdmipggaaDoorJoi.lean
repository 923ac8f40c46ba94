/- The contract of strings.Join. -/
import Derived.Room.Shelf.Join48
import Derived.Test.YtlldpcmdmipggaaDoorL1
namespace Go.Proofs.YtlldpcmdmipggaaDoor
set_option linter.unusedSimpArgs false
set_option linter.unusedVariables false
set_option linter.unusedSectionVars false
open Go.Shelf Go.RowKit

def ren_join : Ren := ⟨fun n => if n = 156 then 28 else if n = 165 then 49 else if n = 166 then 33 else if n = 169 then 35 else if n = 240 then 52 else if n = 241 then 65 else if n = 276 then 67 else if n = 277 then 72 else 0, fun n => if n = 0 then 0 else if n = 3 then 3 else if n = 4 then 4 else if n = 5 then 5 else if n = 9 then 9 else if n = 20 then 20 else if n = 31 then 41 else if n = 37 then 22 else if n = 70 then 53 else if n = 72 then 55 else if n = 75 then 61 else if n = 76 then 62 else if n = 80 then 64 else if n = 127 then 85 else if n = 164 then 95 else 0, fun n => 0⟩
set_option maxRecDepth 100000 in
theorem lays_join : Lays.n156 Tryd.prog ren_join where
  mixed := by kernel_rfl
  f156 := by kernel_rfl
  f165 := by kernel_rfl
  f166 := by kernel_rfl
  f169 := by kernel_rfl
  f240 := by kernel_rfl
  f241 := by kernel_rfl
  f276 := by kernel_rfl
  f277 := by kernel_rfl
  t0 := by kernel_rfl
  a0 := fun w => by kernel_rfl
  z0 := fun w => by kernel_rfl
  v0 := fun w => by kernel_rfl
  t3 := by kernel_rfl
  a3 := fun w => by kernel_rfl
  z3 := fun w => by kernel_rfl
  v3 := fun w => by kernel_rfl
  t4 := by kernel_rfl
  a4 := fun w => by kernel_rfl
  z4 := fun w => by kernel_rfl
  v4 := fun w => by kernel_rfl
  t9 := by kernel_rfl
  a9 := fun w => by kernel_rfl
  z9 := fun w => by kernel_rfl
  v9 := fun w => by kernel_rfl
  t20 := by kernel_rfl
  a20 := fun w => by kernel_rfl
  z20 := fun w => by kernel_rfl
  v20 := fun w => by kernel_rfl
  t31 := by kernel_rfl
  a31 := fun w => by kernel_rfl
  z31 := fun w => by kernel_rfl
  v31 := fun w => by kernel_rfl
  t37 := by kernel_rfl
  a37 := fun w => by kernel_rfl
  z37 := fun w => by kernel_rfl
  v37 := fun w => by kernel_rfl
  t70 := by kernel_rfl
  a70 := fun w => by kernel_rfl
  z70 := fun w => by kernel_rfl
  v70 := fun w => by kernel_rfl
  t72 := by kernel_rfl
  a72 := fun w => by kernel_rfl
  z72 := fun w => by kernel_rfl
  v72 := fun w => by kernel_rfl
  t75 := by kernel_rfl
  a75 := fun w => by kernel_rfl
  z75 := fun w => by kernel_rfl
  v75 := fun w => by kernel_rfl
  t76 := by kernel_rfl
  a76 := fun w => by kernel_rfl
  z76 := fun w => by kernel_rfl
  v76 := fun w => by kernel_rfl
  t127 := by kernel_rfl
  a127 := fun w => by kernel_rfl
  z127 := fun w => by kernel_rfl
  v127 := fun w => by kernel_rfl
  t164 := by kernel_rfl
  a164 := fun w => by kernel_rfl
  z164 := fun w => by kernel_rfl
  v164 := fun w => by kernel_rfl
set_option maxRecDepth 100000 in
theorem join_extra : Builder.Extra Tryd.prog ren_join where
  sizeBuilder := by kernel_rfl
  liesBuilder := by kernel_rfl
  t5 := by kernel_rfl
  a5 := fun w => by kernel_rfl
  z5 := fun w => by kernel_rfl
  v5 := fun w => by kernel_rfl
  infoByte := by kernel_rfl
  cellsByte := by kernel_rfl
  sizeByte := by kernel_rfl
  neB5 := by decide

def strsT (l : List (List UInt8)) : TV := .list (l.map TV.str)
theorem strsT_list (l : List (List UInt8)) : (strsT l).asList = l.map TV.str := rfl
theorem strsT_eq {a b : List (List UInt8)} : strsT a = strsT b ↔ a = b := by
  constructor
  · intro h
    have h2 : (strsT a).asList.map TV.asStr = (strsT b).asList.map TV.asStr := by rw [h]
    simpa [strsT_list, List.map_map, Function.comp_def, TV.asStr] using h2
  · intro h; rw [h]

def joinL : Law := ⟨fun ts => ∃ (l : List (List UInt8)) (s : List UInt8), ts = [strsT l, .str s] ∧ (l ≠ [] ∧ l.length ≤ 1000000 ∧ (Lib.join l s).length ≤ 1000000000), fun ts z₀ => ∀ (l : List (List UInt8)) (s : List UInt8), ts = [strsT l, .str s] → z₀ = .str (Lib.join l s)⟩
theorem join_pre {l : List (List UInt8)} {s : List UInt8} (h : l ≠ [] ∧ l.length ≤ 1000000 ∧ (Lib.join l s).length ≤ 1000000000) : joinL.pre [strsT l, .str s] := ⟨l, s, rfl, h⟩
theorem join_fin {l : List (List UInt8)} {s : List UInt8} {z₀ : TV} (h : z₀ = .str (Lib.join l s)) : joinL.post [strsT l, .str s] z₀ := fun l₁ s₁ e => by
  simp only [List.cons.injEq, TV.str.injEq, TV.int.injEq, TV.bool.injEq, TV.agg.injEq, TV.list.injEq, ints_eq, and_true, true_and, and_assoc, strsT_eq] at e; obtain ⟨rfl, rfl⟩ := e
  exact h
theorem join_all {l : List (List UInt8)} {s : List UInt8} {Q : TV → Prop} : (∀ z₀, joinL.post [strsT l, .str s] z₀ → Q z₀) ↔ Q (.str (Lib.join l s)) := ⟨fun h => h _ (join_fin rfl), fun h z₀ hr => by rw [hr _ _ rfl]; exact h⟩
theorem join_c (k : Nat) : Contract Tryd.prog (mkEnv globT []) gtab (sn_strings_Join k) joinL.pre joinL.post :=
  Contract.leaf ⟨_, Tryd.f28.body.getD .skip, Tryd.func28, by kernel_rfl, by kernel_rfl⟩ fun w ts vs hg ha hp => by
    obtain ⟨l, s, rfl, hne, hl1, hl2⟩ := hp
    obtain ⟨v0, vs0, e0, h0, ha⟩ := argsRep_cons_inv ha
    obtain ⟨v1, vs1, e1, h1, ha⟩ := argsRep_cons_inv ha
    obtain ⟨_, e2⟩ := argsRep_nil_inv ha
    have h1 := argRep_str h1
    subst h1 e2 e1
    obtain ⟨ct, e, h0⟩ := h0
    simp only [List.cons.injEq, and_true] at e
    subst e
    obtain ⟨a, cap, xs, rfl, hc1, hc2, hc3, hr, hcell⟩ := h0.reads (fun g o h => h)
    rw [strsT_list] at hc1 hr
    have hlen : (l.map TV.str).length = l.length := List.length_map _
    have hpos : 0 < l.length := List.length_pos_iff.2 hne
    have hget : ∀ (j : Nat) x, l[j]? = some x → xs[j]? = some (.string ⟨x.toArray⟩) := by
      intro j x hx
      have hj := (List.getElem?_eq_some_iff.1 hx).1
      obtain ⟨u, q1, q2⟩ := hr.2 j (by rw [hlen]; exact hj) 0 (by simp)
      have q1 : xs[j]? = some u := by simpa using q1
      have q2 : RepT (full w) .str (.str x) u := by
        have e : (l.map TV.str)[j]'(by rw [hlen]; exact hj) = .str x := by
          simp only [List.getElem_map]
          rw [(List.getElem?_eq_some_iff.1 hx).2]
        have q3 : RepT (full w) .str (elemCell false ((l.map TV.str)[j]'(by rw [hlen]; exact hj)) 0) u := q2
        rw [e] at q3
        exact q3
      rw [q1]
      cases q2
      rfl
    obtain ⟨x0, hx0⟩ : ∃ x, l[0]? = some x := ⟨_, List.getElem?_eq_getElem hpos⟩
    obtain ⟨g, off, ea, hc0⟩ := hcell 0 _ (hget 0 x0 hx0)
    subst ea
    have hg2 : g < w.heap.size := by
      unfold World.cell? at hc0
      dsimp only at hc0
      cases hh : w.heap[g]? with
      | none => rw [hh] at hc0; simp at hc0
      | some o => exact (Array.getElem?_eq_some_iff.1 hh).1
    have ev : vs = #[.slice (some ⟨g, off, none⟩) l.length cap, .string ⟨s.toArray⟩] := by
      apply Array.toList_inj.1
      rw [e0, strsT_list, hlen]
    subst ev
    have hmm : (l.map fun x => (⟨x.toArray⟩ : ByteArray)).map (·.data.toList) = l := by
      rw [List.map_map]
      simp [Function.comp_def]
    refine ⟨.str (Lib.join l s), .string ⟨(Lib.join l s).toArray⟩, fun M => .str _, join_fin rfl, ?_⟩
    have := Any.strings_Join_48 lays_join join_extra g off cap (l.map fun x => (⟨x.toArray⟩ : ByteArray)) ⟨s.toArray⟩ w (fun j x hx => by
      rw [List.getElem?_map] at hx
      cases hq : l[j]? with
      | none => rw [hq] at hx; cases hx
      | some y =>
        rw [hq] at hx
        simp only [Option.map_some, Option.some.injEq] at hx
        subst hx
        obtain ⟨g', off', e1, e2⟩ := hcell j _ (hget j y hq)
        injection e1 with e1
        injection e1 with e3 e4
        subst e3 e4
        exact e2) hg2 (by rw [List.length_map]; omega) (by rw [List.length_map]; rw [hlen] at hc1; exact hc1) (by rw [hmm]; exact Nat.le_trans hl2 (by omega))
    rw [hmm, List.length_map] at this
    exact this
end Go.Proofs.YtlldpcmdmipggaaDoor
