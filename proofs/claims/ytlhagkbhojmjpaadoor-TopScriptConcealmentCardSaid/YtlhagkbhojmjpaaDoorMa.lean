/- merged copy -/
import Derived.Test.YtlhagkbhojmjpaaDoorFc
import Derived.Lib.LaidU8T
import Derived.Lib.LaidIn
import Derived.Test.YtlhagkbhojmjpaaDoorRows
namespace Go.Proofs.YtlhagkbhojmjpaaDoor
set_option linter.unusedSimpArgs false
set_option linter.unusedVariables false
set_option linter.unusedSectionVars false
open Go.RowKit Go.Lib

def brailleZ : List Int := [0, 46, 16, 60, 43, 41, 47, 4, 55, 62, 33, 44, 32, 36, 40, 12, 52, 2, 6, 18, 50, 34, 22, 54, 38, 20, 49, 48, 35, 63, 28, 57, 72, 65, 67, 73, 89, 81, 75, 91, 83, 74, 90, 69, 71, 77, 93, 85, 79, 95, 87, 78, 94, 101, 103, 122, 109, 125, 117, 106, 115, 123, 88, 56, 8, 1, 3, 9, 25, 17, 11, 27, 19, 10, 26, 5, 7, 13, 29, 21, 15, 31, 23, 14, 30, 37, 39, 58, 45, 61, 53, 42, 51, 59, 24]
def zd2 : TV := ints brailleZ
def zea : TV := ints firstTab
def acceptT : TV := .list ((List.range 16).map fun i => .agg [.int (accLo i), .int (accHi i)])

theorem zul {W : World} {g : Nat} {cs : List Value} (hpos : 0 < cs.length) (h : ∀ c : Nat, W.cell? ⟨g, c, none⟩ = cs[c]?) : ∃ (cur : Array Value) (el : TypeId) (fr : Nat × Nat), full W g (.cells cur el fr) ∧ ∀ c : Nat, cur[c]? = cs[c]? := by
  have h0 := h 0
  rw [List.getElem?_eq_getElem hpos] at h0
  unfold World.cell? at h0
  split at h0
  · rename_i cur el fr hh
    refine ⟨cur, el, fr, hh, fun c => ?_⟩
    rw [← h c]
    unfold World.cell?
    dsimp only at hh ⊢
    rw [hh]
    rfl
  · cases h0
theorem z8f {P : Program} {W : World} {name : String} {g : Nat} {t e : TypeId} {n : Nat} {k : IntKind} {zs : List Int} (h : VarReads P W name (tabData k zs)) (hg : P.globalNamed name = some g) (hty : (P.globals[g]?).map (·.type) = some t)
    (ht : P.underlying t = some (.array n e)) (he : P.underlying e = some (.int k)) (hce : P.cellsOf e = 1) (hct : P.cellsOf t = n) (hpos : 0 < zs.length) (hmax : zs.length ≤ maxLen) :
    RepT (full W) (.slice false [.int k]) (ints zs) (.slice (some ⟨g, 0, none⟩) (ints zs).asList.length (ints zs).asList.length) ∧ 0 < (ints zs).asList.length := by
  obtain ⟨g', t', cs, fuel, p, hg', hty', hvar, hd⟩ := h
  obtain rfl := Option.some.inj (hg.symm.trans hg')
  obtain rfl := Option.some.inj (hty.symm.trans hty')
  have hcs := cells_of_tab ht he hce hct hd
  have hcell : ∀ c : Nat, W.cell? ⟨g, c, none⟩ = (zs.map fun z => Value.int k z)[c]? := fun c => by rw [World.var?_cell hg hvar c, ← Array.getElem?_toList, hcs]
  obtain ⟨cur, el, fr, hM, hc⟩ := zul (by simpa using hpos) hcell
  have hl := zal zs
  refine ⟨.slice false [.int k] (ints zs) g 0 (ints zs).asList.length cur el fr (fun i c => .int k (zs.getD i 0)) hM (Nat.le_refl _) (by rw [hl]; exact hmax) (fun i hi c hc' => ?_) (fun i hi c hc' => ?_), by rw [hl]; exact hpos⟩
  · have : c = 0 := by simp at hc'; exact hc'
    subst this
    rw [hl] at hi
    rw [show 0 + i * [CT.int k].length + 0 = i by simp, hc, List.getElem?_map, List.getD_eq_getElem?_getD, List.getElem?_eq_getElem hi]
    rfl
  · have : c = 0 := by simp at hc'; exact hc'
    subst this
    rw [hl] at hi
    have e : zbk false ((ints zs).asList[i]) 0 = .int (zs.getD i 0) := by
      simp [zbk, ints, TV.asList, List.getD_eq_getElem?_getD, List.getElem?_eq_getElem hi]
    rw [e]
    exact .int k (.int (zs.getD i 0))
end Go.Proofs.YtlhagkbhojmjpaaDoor
namespace Go.Proofs.YtlhagkbhojmjpaaDoor
set_option linter.unusedVariables false
set_option linter.unusedSimpArgs false
def popsZ : List Int := [0, 0, 0, 0, 1, 1, 0, 0, 2, 2, 2, 2, 2, 1, 1, 1, 2, 0, 1, 1, 1]
def pushZ : List Int := [0, 1, 1, 1, 1, 1, 1, 1, 1, 1, 1, 1, 1, 1, 2, 0, 2, 0, 0, 0, 0]
def popsT : TV := ints popsZ
def pushT : TV := ints pushZ
def gtab : GT := [(0, false, [(.int .i64)]), (1, false, [(.int .i64)])]
def gtabU : GT := [(0, false, [(.int .i64)]), (1, false, [(.int .i64)]), (3, false, [(.int .u8)]), (4, true, [(.int .u8), (.int .u8)])]
def globT : Nat → TV := fun n => if n = 0 then popsT else if n = 1 then pushT else if n = 3 then zea else if n = 4 then acceptT else .list []
theorem za3 : ∀ x ∈ gtab, x ∈ gtabU := by
  intro x hx
  unfold gtab at hx
  unfold gtabU
  simp only [List.mem_cons, List.not_mem_nil, or_false] at hx ⊢
  exact hx.elim .inl fun h => .inr (.inl h)
end Go.Proofs.YtlhagkbhojmjpaaDoor
