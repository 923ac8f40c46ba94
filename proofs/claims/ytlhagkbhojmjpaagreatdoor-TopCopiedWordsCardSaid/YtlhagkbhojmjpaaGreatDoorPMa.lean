/- Written by this repo's own program out of its texts. -/
import Derived.Test.YtlhagkbhojmjpaaGreatDoorPFc
import Derived.Lib.LaidU8T
import Derived.Lib.LaidIn
import Derived.Test.YtlhagkbhojmjpaaGreatDoorRows
set_option linter.unusedSimpArgs false
set_option linter.unusedVariables false
set_option linter.unusedSectionVars false
namespace Go.Proofs.YtlhagkbhojmjpaaGreatDoor
open Go.RowKit Go.Lib
def zea : TV := ints firstTab
def acceptT : TV := .list ((List.range 16).map fun i => .agg [.int (accLo i), .int (accHi i)])
theorem zul {W : World} {g : Nat} {cs : List Value} (hpos : 0 < cs.length) (h : ∀ c : Nat, W.cell? ⟨g, c, none⟩ = cs[c]?) : ∃ (cur : Array Value) (el : TypeId) (fr : Nat × Nat), full W g (.cells cur el fr) ∧ ∀ c : Nat, cur[c]? = cs[c]? := by
 have h0 := h 0
 rw [List.getElem?_eq_getElem hpos] at h0
 unfold World.cell? at h0
 split at h0
 ·rename_i cur el fr hh
  refine ⟨cur, el, fr, hh, fun c => ?_⟩
  rw [← h c]
  unfold World.cell?
  dsimp only at hh ⊢
  rw [hh]
  rfl
 ·cases h0
theorem z8f {P : Program} {W : World} {name : String} {g : Nat} {t e : TypeId} {n : Nat} {k : IntKind} {zs : List Int} (h : VarReads P W name (tabData k zs)) (hg : P.globalNamed name = some g) (hty : (P.globals[g]?).map (·.type) = some t)
  (ht : P.underlying t = some (.array n e)) (he : P.underlying e = some (.int k)) (hce : P.cellsOf e = 1) (hct : P.cellsOf t = n) (hpos : 0 < zs.length) (hmax : zs.length ≤ maxLen) :
  RepT (full W) (.slice false [.int k]) (ints zs) (.slice (some ⟨g, 0, none⟩) (ints zs).asList.length (ints zs).asList.length) ∧ 0 < (ints zs).asList.length := by
 obtain ⟨g', t', cs, fuel, p, hg', hty', hvar, hd⟩ := h
 obtain rfl := Option.some.inj (hg.symm.trans hg')
 obtain rfl := Option.some.inj (hty.symm.trans hty')
 have hcs := cells_of_tab ht he hce hct hd
 have hcell : ∀ c : Nat, W.cell? ⟨g, c, none⟩ = (zs.map fun z => Value.int k z)[c]? := fun c => by rw [World.var?_cell hg hvar c, ← Array.getElem?_toList, hcs]
 obtain ⟨cur, el, fr, hM, hc⟩ := zul (by simpa using hpos) hcell
 have hl := zal zs
 refine ⟨.slice false [.int k] (ints zs) g 0 (ints zs).asList.length cur el fr (fun i c => .int k (zs.getD i 0)) hM (Nat.le_refl _) (by rw [hl]; exact hmax) (fun i hi c hc' => ?_) (fun i hi c hc' => ?_), by rw [hl]; exact hpos⟩
 ·have : c = 0 := by simp at hc'; exact hc'
  subst this
  rw [hl] at hi
  rw [show 0 + i * [CT.int k].length + 0 = i by simp, hc, List.getElem?_map, List.getD_eq_getElem?_getD, List.getElem?_eq_getElem hi]
  rfl
 ·have : c = 0 := by simp at hc'; exact hc'
  subst this
  rw [hl] at hi
  have e : zbk false ((ints zs).asList[i]) 0 = .int (zs.getD i 0) := by
   simp [zbk, ints, TV.asList, List.getD_eq_getElem?_getD, List.getElem?_eq_getElem hi]
  rw [e]
  exact .int k (.int (zs.getD i 0))
end Go.Proofs.YtlhagkbhojmjpaaGreatDoor
namespace Go.Proofs.YtlhagkbhojmjpaaGreatDoor
def asciiZ : List Int := (List.range 256).map fun i => if i = 9 ∨ i = 10 ∨ i = 11 ∨ i = 12 ∨ i = 13 ∨ i = 32 then 1 else 0
def asciiT : TV := ints asciiZ
def stylesT : TV := .list [.str [112, 108, 97, 105, 110], .str [115, 116, 114, 111, 110, 103], .str [105, 110, 118, 101, 114, 115, 101], .str [104, 105, 100, 100, 101, 110]]
def gtab : GT := [(4, false, [(.int .u8)]), (3, false, [.str])]
def gtabU : GT := [(4, false, [(.int .u8)]), (3, false, [.str]), (0, false, [(.int .u8)]), (1, true, [(.int .u8), (.int .u8)])]
def globT : Nat → TV := fun n => if n = 4 then asciiT else if n = 3 then stylesT else if n = 0 then zea else if n = 1 then acceptT else .list []
theorem za3 : ∀ x ∈ gtab, x ∈ gtabU := by
 intro x hx
 unfold gtab at hx
 unfold gtabU
 simp only [List.mem_cons, List.not_mem_nil, or_false] at hx ⊢
 exact hx.elim .inl fun h => .inr (.inl h)
abbrev GK (Γ : CEnv) : Prop := ∀ n, Γ.glob n = globT n
abbrev GS (gt : GT) (Γ : CEnv) (c : Cx) : Prop := ∀ s ∈ c.sigs, Contract Tryz.prog Γ gt s (Γ.pre s.no) (Γ.post s.no)
abbrev rU (n : Nat) : List SV := List.replicate n (SV.sc .undef)
abbrev GC (gt : GT) (Γ : CEnv) (s : Nat → Sig) (t : Tree) (n : Nat) : Prop := ∀ (k : Nat) {pre : List TV → Prop} {post : List TV → TV → Prop}, (∀ ts : List TV, ts.length = n → pre ts → t.den Γ (post ts) ts []) → Contract Tryz.prog Γ gt (s k) pre post
end Go.Proofs.YtlhagkbhojmjpaaGreatDoor
