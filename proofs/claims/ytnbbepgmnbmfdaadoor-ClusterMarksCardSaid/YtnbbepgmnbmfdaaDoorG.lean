/- The tables that the symbolic runs read. -/
import Derived.Test.YtnbbepgmnbmfdaaDoorTab
import Derived.Test.YtnbbepgmnbmfdaaDoorRows
namespace Go.Proofs.YtnbbepgmnbmfdaaDoor
set_option linter.unusedVariables false
set_option linter.unusedSimpArgs false
def gtab : GT := [(0, false, [(.int .u8)]), (1, true, [(.int .u8), (.int .u8)])]
abbrev gtabU : GT := gtab
def globT : Nat → TV := fun n => if n = 0 then firstT' else if n = 1 then acceptT else .list []
theorem gtab_sub : ∀ x ∈ gtab, x ∈ gtabU := fun _ h => h
end Go.Proofs.YtnbbepgmnbmfdaaDoor
