/- In a world in which the table is laid the symbolic runs' tables are as they should. -/
import Derived.Test.YtbeelajedknohaaDoorCs
import Derived.Test.YtbeelajedknohaaDoorOq
namespace Go.Proofs.YtbeelajedknohaaDoor
set_option linter.unusedSimpArgs false
set_option linter.unusedVariables false
set_option linter.unusedSectionVars false
open Go Go.Lib
theorem glob_of {l : List (String × DataW Unit)} {W : World} (h : laidMet Tryd.prog l W) (hx : ∃ n, Tryd.prog.globalNamed n = some 2 ∧ (n, (tabData .u8 brailleZ : DataW Unit)) ∈ l) : GlobOk (mkEnv globT []) gtab W := by
  obtain ⟨n, hn, hl⟩ := hx
  intro g ag cs hg
  simp only [gtab, List.mem_singleton, Prod.mk.injEq] at hg
  obtain ⟨rfl, rfl, rfl⟩ := hg
  exact rep_table (t := 118) (laidMet.reads h hl) hn (by kernel_rfl) Tryd.underlying118 Tryd.underlying5 (by kernel_rfl) (by kernel_rfl) (by decide) (by decide)
end Go.Proofs.YtbeelajedknohaaDoor
