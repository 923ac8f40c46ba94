/- Two functions of strings.Builder, by their laws: copyCheck (the kit's shelf) and String. -/
import Derived.Shelf.Strings.Builder1
import Derived.Test.YtbeelajedknohaaDoorFc
import Derived.Test.YtbeelajedknohaaDoorProg
namespace Go.Proofs.YtbeelajedknohaaDoor
set_option linter.unusedSimpArgs false
set_option linter.unusedVariables false
set_option linter.unusedSectionVars false
open Go.Shelf Go.RowKit

def ren_builderCheck : Ren := ⟨fun n => if n = 240 then 98 else if n = 276 then 108 else if n = 169 then 69 else 0, fun n => if n = 0 then 0 else if n = 3 then 3 else if n = 4 then 4 else if n = 5 then 5 else if n = 9 then 9 else if n = 20 then 20 else if n = 37 then 22 else if n = 70 then 89 else if n = 72 then 91 else if n = 127 then 125 else if n = 164 then 132 else 0, fun n => 0⟩
set_option maxRecDepth 100000 in
theorem lays_builderCheck : Lays.n240 Tryd.prog ren_builderCheck where
  mixed := by kernel_rfl
  f240 := by kernel_rfl
  f276 := by kernel_rfl
  t0 := by kernel_rfl
  a0 := fun w => by kernel_rfl
  z0 := fun w => by kernel_rfl
  v0 := fun w => by kernel_rfl
  t4 := by kernel_rfl
  a4 := fun w => by kernel_rfl
  z4 := fun w => by kernel_rfl
  v4 := fun w => by kernel_rfl
  t9 := by kernel_rfl
  a9 := fun w => by kernel_rfl
  z9 := fun w => by kernel_rfl
  v9 := fun w => by kernel_rfl
  t20 := by kernel_rfl
  a20 := fun w => by kernel_rfl
  z20 := fun w => by kernel_rfl
  v20 := fun w => by kernel_rfl
  t70 := by kernel_rfl
  a70 := fun w => by kernel_rfl
  z70 := fun w => by kernel_rfl
  v70 := fun w => by kernel_rfl
  t72 := by kernel_rfl
  a72 := fun w => by kernel_rfl
  z72 := fun w => by kernel_rfl
  v72 := fun w => by kernel_rfl
  t164 := by kernel_rfl
  a164 := fun w => by kernel_rfl
  z164 := fun w => by kernel_rfl
  v164 := fun w => by kernel_rfl
set_option maxRecDepth 100000 in
theorem lays_builderStr : Lays.n169 Tryd.prog ren_builderCheck where
  mixed := by kernel_rfl
  f169 := by kernel_rfl
  t0 := by kernel_rfl
  a0 := fun w => by kernel_rfl
  z0 := fun w => by kernel_rfl
  v0 := fun w => by kernel_rfl
  t3 := by kernel_rfl
  a3 := fun w => by kernel_rfl
  z3 := fun w => by kernel_rfl
  v3 := fun w => by kernel_rfl
  t9 := by kernel_rfl
  a9 := fun w => by kernel_rfl
  z9 := fun w => by kernel_rfl
  v9 := fun w => by kernel_rfl
  t37 := by kernel_rfl
  a37 := fun w => by kernel_rfl
  z37 := fun w => by kernel_rfl
  v37 := fun w => by kernel_rfl
  t70 := by kernel_rfl
  a70 := fun w => by kernel_rfl
  z70 := fun w => by kernel_rfl
  v70 := fun w => by kernel_rfl
  t72 := by kernel_rfl
  a72 := fun w => by kernel_rfl
  z72 := fun w => by kernel_rfl
  v72 := fun w => by kernel_rfl
  t127 := by kernel_rfl
  a127 := fun w => by kernel_rfl
  z127 := fun w => by kernel_rfl
  v127 := fun w => by kernel_rfl
set_option maxRecDepth 100000 in
theorem builder_extra : Builder.Extra Tryd.prog ren_builderCheck where
  sizeBuilder := by kernel_rfl
  liesBuilder := by kernel_rfl
  t5 := by kernel_rfl
  a5 := fun w => by kernel_rfl
  z5 := fun w => by kernel_rfl
  v5 := fun w => by kernel_rfl
  infoByte := by kernel_rfl
  cellsByte := by kernel_rfl
  sizeByte := by kernel_rfl
  neB5 := by decide

section
variable {P : Program} {ρ : Ren}
theorem run_loadInts : ∀ (w : World) (l : List Int) (a : Addr) (acc : ByteArray), (∀ (j : Nat) x, l[j]? = some x → w.cell? (a.add j) = some (.int .u8 x)) →
    (loadBytes a acc l.length).run P w = .ok ⟨acc.data ++ (l.map fun x => UInt8.ofNat x.toNat).toArray⟩ w
  | w, [], a, acc, _ => by simp [loadBytes]
  | w, x :: l, a, acc, h => by
    have h0 : w.cell? a = some (.int .u8 x) := by
      have := h 0 x rfl
      simpa [Addr.add] using this
    have ih := run_loadInts w l (a.add 1) (acc.push x.toNat.toUInt8) (fun j y hy => by
      have := h (j + 1) y (by simpa using hy)
      have e : (a.add 1).add j = a.add (j + 1) := by
        unfold Addr.add
        by_cases hj : j = 0
        · subst hj; simp
        · simp [hj]; omega
      rw [e]
      exact this)
    simp only [List.length_cons, loadBytes, Sem.run_bind, run_load, h0, Result.andThen]
    rw [ih]
    congr 1
    apply ByteArray.ext
    simp [ByteArray.push]
theorem run_string_ints (w : World) (pt it ty e : TypeId) (hp : P.underlying pt = some (.pointer e)) (hc : P.cellsOf e = 1) (g cells : Nat) (hsh : w.shape? g = some (e, cells)) (l : List Int) (h0 : l ≠ []) (hn : l.length ≤ cells) (h63 : l.length ≤ 9223372036854775807)
    (hcell : ∀ (j : Nat) x, l[j]? = some x → w.cell? ((⟨g, 0, none⟩ : Addr).add j) = some (.int .u8 x)) :
    (Builtin.unsafeString_ #[pt, it] ty #[.pointer (some ⟨g, 0, none⟩), .int .i64 l.length]).run P w = .ok (.string ⟨(l.map fun x => UInt8.ofNat x.toNat).toArray⟩) (w.freeze ⟨g, 0, none⟩ l.length) := by
  have hl : l.length ≠ 0 := by simpa using h0
  have hlb := run_loadInts (P := P) w l ⟨g, 0, none⟩ .empty hcell
  have hlies := Lib.liesAt_bytes (P := P) hc (cells / P.cellsOf e) l.length (by rw [hc]; simpa using hn)
  have h63' : ¬ (9223372036854775807 : Int) < (l.length : Int) := by omega
  rw [show Builtin.unsafeString_ #[pt, it] ty #[.pointer (some ⟨g, 0, none⟩), .int .i64 l.length] = Bind.bind (asInt (.int .i64 l.length)) _ from rfl]
  have hmax : IntKind.i64.max = 9223372036854775807 := rfl
  have hneg : ¬ (l.length : Int) < 0 := by omega
  simp [asInt, asIntOf, hmax, h63', hneg, hl, variablesAt, hsh, elemOf, run_underlying hp, hlies, hlb]
theorem grown_freeze (w : World) (g n : Nat) : w.grownBy (w.drew.freeze ⟨g, 0, none⟩ n) (some g) := by
  unfold World.freeze
  split
  · exact ⟨rfl, rfl, rfl, Nat.le_refl _, fun k hk hne => rfl⟩
  · refine ⟨rfl, rfl, rfl, by simp, fun k hk hne => ?_⟩
    dsimp only
    rw [Array.getElem?_modify, if_neg (fun e => hne (by rw [e]))]
    rfl
set_option maxHeartbeats 2000000 in
set_option maxRecDepth 100000 in
theorem string_ints (L : Lays.n169 P ρ) (X : Builder.Extra P ρ) (b g cap : Nat) (p : Value) (l : List Int) (cur : Array Value) (w : World) (hbk : w.heap[b]? = some (.cells #[p, .slice (some ⟨g, 0, none⟩) l.length cap] (ρ.t 72) (0, 0)))
    (hg : w.heap[g]? = some (.cells cur (ρ.t 5) (0, 0))) (h0 : l ≠ []) (hlc : l.length ≤ cap) (hcm : cap ≤ maxLen) (hcs : cur.size = cap) (htake : cur.toList.take l.length = l.map fun n => .int .u8 n) :
    Calls P (ρ.f 169) #[.pointer (some ⟨b, 0, none⟩)] w fun e w' => e = .returned (.string ⟨(l.map fun x => UInt8.ofNat x.toNat).toArray⟩) ∧ w.grownBy w' (some g) := by
  have hl0 : l.length ≠ 0 := by simpa using h0
  have c1 : w.drew.cell? ⟨b, 1, none⟩ = some (.slice (some ⟨g, 0, none⟩) l.length cap) := by
    have : w.drew.heap[b]? = some (.cells #[p, .slice (some ⟨g, 0, none⟩) l.length cap] (ρ.t 72) (0, 0)) := hbk
    rw [Lib.cell_of_heap this]; rfl
  have hSD : (Builtin.unsafeSliceData_ #[(ρ.t 37)] (ρ.t 127) #[.slice (some ⟨g, 0, none⟩) l.length cap]).run P w.drew = .ok (.pointer (some ⟨g, 0, none⟩)) w.drew :=
    Lib.run_unsafeSliceData_row _ _ _ _ _ _ (by omega)
  have hUS : (Builtin.unsafeString_ #[(ρ.t 127), (ρ.t 3)] (ρ.t 9) #[.pointer (some ⟨g, 0, none⟩), .int .i64 l.length]).run P w.drew = .ok (.string ⟨(l.map fun x => UInt8.ofNat x.toNat).toArray⟩) (w.drew.freeze ⟨g, 0, none⟩ l.length) := by
    have hg' : w.drew.heap[g]? = some (.cells cur (ρ.t 5) (0, 0)) := hg
    refine run_string_ints w.drew (ρ.t 127) (ρ.t 3) (ρ.t 9) (ρ.t 5) L.t127 X.cellsByte g cur.size (by simp [World.shape?, hg']) l h0 (by omega) (by unfold maxLen at hcm; omega) ?_
    intro j x hx
    have hj := (List.getElem?_eq_some_iff.1 hx).1
    have e1 : (cur.toList.take l.length)[j]? = some (.int .u8 x) := by rw [htake, List.getElem?_map, hx]; rfl
    rw [List.getElem?_take, if_pos hj] at e1
    have e2 : (⟨g, 0, none⟩ : Addr).add j = ⟨g, j, none⟩ := by
      unfold Addr.add
      by_cases h : j = 0
      · subst h; simp
      · simp [h]
    rw [e2, Lib.cell_of_heap hg', ← Array.getElem?_toList]
    exact e1
  have mixed := L.mixed
  have t127 := L.t127; have a127 := L.a127; have z127 := L.z127; have v127 := L.v127; have u127 := run_underlying L.t127
  have t72 := L.t72; have a72 := L.a72; have z72 := L.z72; have v72 := L.v72; have u72 := run_underlying L.t72
  have t70 := L.t70; have a70 := L.a70; have z70 := L.z70; have v70 := L.v70; have u70 := run_underlying L.t70
  have t37 := L.t37; have a37 := L.a37; have z37 := L.z37; have v37 := L.v37; have u37 := run_underlying L.t37
  have t9 := L.t9; have a9 := L.a9; have z9 := L.z9; have v9 := L.v9; have u9 := run_underlying L.t9
  have t3 := L.t3; have a3 := L.a3; have z3 := L.z3; have v3 := L.v3; have u3 := run_underlying L.t3
  go_enter L.f169, Body.n169_ntmps ρ
  go_wp2
  go_region_o
  all_goals (go_wp2; go_ret; exact ⟨rfl, grown_freeze w g l.length⟩)
end
theorem primok_check : PrimOk Tryd.prog 98 (.check 91) := by
  refine ⟨⟨Tryd.f98, (Tryd.f98.body.getD .skip), Tryd.func98, by kernel_rfl, by kernel_rfl⟩, ?_⟩
  intro w g cur hg hsz h0
  have hlt := (Array.getElem?_eq_some_iff.1 hg).1
  rcases h0 with h0 | h0
  · refine (Any.Builder_copyCheck_fresh lays_builderCheck builder_extra.toX72 g w (by rw [Lib.cell_of_heap hg]; exact h0) (by simp [World.shape?, hg, hsz]; rfl) (Lib.frozen_of_heap hg 0)).mono ?_
    rintro e w' ⟨rfl, rfl⟩
    refine ⟨rfl, ?_, ⟨rfl, rfl, rfl, by simp [World.setCell], fun k hk hne => ?_⟩⟩
    · simp [World.setCell, hg, Array.getElem?_modify]
    · simp only [World.setCell]
      rw [Array.getElem?_modify, if_neg (fun e => hne (by rw [e]))]
  · refine (Any.Builder_copyCheck_used lays_builderCheck builder_extra.toX72 g w (by rw [Lib.cell_of_heap hg]; exact h0)).mono ?_
    rintro e w' ⟨rfl, rfl⟩
    refine ⟨rfl, ?_, ⟨rfl, rfl, rfl, Nat.le_refl _, fun k hk hne => rfl⟩⟩
    rw [hg]
    congr 2
    apply Array.ext_getElem?
    intro i
    rw [Array.getElem?_setIfInBounds]
    split
    · rename_i e; subst e; rw [if_pos (by omega)]; exact h0
    · rfl
theorem primok_bstr : PrimOk Tryd.prog 69 (.bstr 91 5) := by
  refine ⟨⟨Tryd.f69, (Tryd.f69.body.getD .skip), Tryd.func69, by kernel_rfl, by kernel_rfl⟩, ?_⟩
  intro w g self v l hg hown hne
  have bel : ∀ {w' : World} {r : Option Nat}, Below w.heap.size w w' → w.grownBy w' r := fun h => ⟨h.os, h.tape, h.output, h.size, fun k hk _ => h.block k hk⟩
  rcases hown.2 with ⟨rfl, hl⟩ | ⟨b, cap, cur, rfl, _, hb, hlc, hcm, hcs, htake⟩
  · have : l = [] := List.eq_nil_of_length_eq_zero hl
    subst this
    refine (Any.Builder_String_nil lays_builderStr builder_extra w.heap.size g self w hg).mono ?_
    rintro e w' ⟨rfl, hw⟩
    exact ⟨rfl, bel hw⟩
  · cases l with
    | nil =>
      by_cases hc0 : cap = 0
      · subst hc0
        refine (Any.Builder_String_noroom lays_builderStr builder_extra w.heap.size g b self cur w (Nat.le_refl _) hg hb).mono ?_
        rintro e w' ⟨rfl, hw⟩
        exact ⟨rfl, bel hw⟩
      · refine (Any.Builder_String_room lays_builderStr builder_extra w.heap.size g b cap self w hc0 hg).mono ?_
        rintro e w' ⟨rfl, hw⟩
        exact ⟨rfl, bel hw⟩
    | cons x l => exact string_ints lays_builderStr builder_extra g b cap self (x :: l) cur w hg hb (by simp) hlc hcm (by simpa using hcs) (by simpa using htake)
end Go.Proofs.YtbeelajedknohaaDoor
