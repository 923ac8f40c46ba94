/- Written by this repo's own program out of its texts. -/
import Derived.Test.YtlhagkbhojmjpaaGreatDoorPMb
set_option linter.unusedSimpArgs false
set_option linter.unusedVariables false
namespace Go.Proofs.YtlhagkbhojmjpaaGreatDoor
structure Gl where
 s : List UInt8
 w : Bool
 y : Int
instance : Inhabited Gl := ⟨⟨[], false, 0⟩⟩
def glT (g : Gl) : TV := .agg [.str g.s, .bool g.w, .int g.y]
def glsT (l : List Gl) : TV := .list (l.map glT)
theorem qbs {a b : List Gl} (h : glsT a = glsT b) : a = b := by
 unfold glsT at h
 simp only [TV.list.injEq] at h
 have := congrArg (List.map fun t : TV => (⟨(t.cell 0).asStr, (t.cell 1).asBool, (t.cell 2).asInt⟩ : Gl)) h
 simpa [List.map_map, Function.comp_def, glT, TV.cell, TV.cells, TV.asInt, TV.asStr, TV.asBool] using this
theorem zzx {a b : List Gl} : glsT a = glsT b ↔ a = b := ⟨qbs, fun h => by rw [h]⟩
theorem zaw (l : List Gl) : (glsT l).asList = l.map glT := rfl
theorem zbo (l : List Gl) : (glsT l).asList.length = l.length := by rw [zaw, List.length_map]
def gg (l : List Gl) (i : Nat) : Gl := l.getD i default
theorem zi7 {l : List Gl} {i : Nat} (h : i < l.length) : (l.map glT).getD i (.int 0) = glT (gg l i) := by
 unfold gg
 rw [List.getD_eq_getElem?_getD, List.getElem?_map, List.getD_eq_getElem?_getD, List.getElem?_eq_getElem h]
 rfl
theorem zkt {l : List Gl} {k : Nat} (h : k < l.length) : l.drop k = gg l k :: l.drop (k + 1) := by
 unfold gg
 rw [List.drop_eq_getElem_cons h, List.getD_eq_getElem?_getD, List.getElem?_eq_getElem h]
 rfl
theorem gls_snoc (l : List Gl) (g : Gl) : TV.list (l.map glT ++ [.agg [.str g.s, .bool g.w, .int g.y]]) = glsT (l ++ [g]) := by simp [glsT, glT]
end Go.Proofs.YtlhagkbhojmjpaaGreatDoor
