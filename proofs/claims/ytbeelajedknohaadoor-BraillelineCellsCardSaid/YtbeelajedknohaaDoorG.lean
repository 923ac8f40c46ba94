/- The tables that the symbolic runs read. -/
import Derived.Test.YtbeelajedknohaaDoorTab
import Derived.Test.YtbeelajedknohaaDoorRows
namespace Go.Proofs.YtbeelajedknohaaDoor
set_option linter.unusedVariables false
set_option linter.unusedSimpArgs false
def gtab : GT := [(2, false, [(.int .u8)])]
def gtabU : GT := [(2, false, [(.int .u8)]), (0, false, [(.int .u8)]), (1, true, [(.int .u8), (.int .u8)])]
def globT : Nat → TV := fun n => if n = 2 then brailleT else if n = 0 then firstT' else if n = 1 then acceptT else .list []
theorem gtab_sub : ∀ x ∈ gtab, x ∈ gtabU := by intro x hx; unfold gtab at hx; unfold gtabU; simp only [List.mem_cons, List.not_mem_nil, or_false] at hx ⊢; exact .inl hx
end Go.Proofs.YtbeelajedknohaaDoor
