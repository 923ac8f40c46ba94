/- Written by this repo's own program out of its texts. -/
import Derived.Test.YtlhagkbhojmjpaaGreatDoorRMc
import Derived.Test.YtlhagkbhojmjpaaGreatDoorRMd
namespace Go.Proofs.YtlhagkbhojmjpaaGreatDoor
set_option linter.unusedSimpArgs false
set_option linter.unusedVariables false
set_option linter.unusedSectionVars false
open Go Go.Lib
theorem z7v {l : List (String × DataW Unit)} {W : World} (h : laidMet Tryz.prog l W) (hx : ∃ n, Tryz.prog.globalNamed n = some 2 ∧ (n, (tabData .u8 brailleZ : DataW Unit)) ∈ l) : GlobOk (mkEnv globT []) gtab W := by
  obtain ⟨n, hn, hl⟩ := hx
  intro g ag cs hg
  simp only [gtab, List.mem_singleton, Prod.mk.injEq] at hg
  obtain ⟨rfl, rfl, rfl⟩ := hg
  exact z8f (t := 180) (laidMet.reads h hl) hn (by kernel_rfl) Tryz.underlying180 Tryz.underlying5 (by kernel_rfl) (by kernel_rfl) (by decide) (by decide)
end Go.Proofs.YtlhagkbhojmjpaaGreatDoor
namespace Go.Proofs.YtlhagkbhojmjpaaGreatDoor
set_option linter.unusedSimpArgs false
set_option linter.unusedVariables false
set_option linter.unusedSectionVars false
open Go Go.Lib Go.RowKit
theorem zme {l : List (String × DataW Unit)} {W : World} (h : laidMet Tryz.prog l W) (hx : ∃ n, Tryz.prog.globalNamed n = some 2 ∧ (n, (Lib.tabData .u8 brailleZ : DataW Unit)) ∈ l)
    (h1 : ("unicode/utf8.first", Lib.firstData) ∈ l) (h2 : ("unicode/utf8.acceptRanges", Lib.acceptData) ∈ l) : GlobOk (mkEnv globT []) gtabU W := by
  have hb := z7v h hx
  have hT := tabs_of h h1 h2
  intro g ag cs hg
  simp only [gtabU, List.mem_cons, List.not_mem_nil, or_false, Prod.mk.injEq] at hg
  rcases hg with ⟨rfl, rfl, rfl⟩ | ⟨rfl, rfl, rfl⟩ | ⟨rfl, rfl, rfl⟩
  · exact hb _ _ _ (by unfold gtab; simp)
  · exact z0l hT
  · exact zxe hT
end Go.Proofs.YtlhagkbhojmjpaaGreatDoor

