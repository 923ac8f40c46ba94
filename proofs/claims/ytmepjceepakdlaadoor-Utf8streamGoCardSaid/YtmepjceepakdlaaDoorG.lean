/- The tables that the symbolic runs read. -/
import Derived.Test.YtmepjceepakdlaaDoorTab
import Derived.Test.YtmepjceepakdlaaDoorRows
namespace Go.Proofs.YtmepjceepakdlaaDoor
set_option linter.unusedVariables false
set_option linter.unusedSimpArgs false
def gtab : GT := []
def gtabU : GT := [(0, false, [(.int .u8)]), (1, true, [(.int .u8), (.int .u8)])]
def globT : Nat → TV := fun n => if n = 0 then firstT' else if n = 1 then acceptT else .list []
theorem gtab_sub : ∀ x ∈ gtab, x ∈ gtabU := by intro x hx; cases hx
end Go.Proofs.YtmepjceepakdlaaDoor
