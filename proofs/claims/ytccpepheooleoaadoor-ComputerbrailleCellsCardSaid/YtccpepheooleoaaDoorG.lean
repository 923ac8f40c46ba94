/- Written by a program of ours (Gen): the trees of the symbolic runs of functions, and their contracts' frames. -/
import Derived.Test.YtccpepheooleoaaDoorTab
import Derived.Test.YtccpepheooleoaaDoorRows
namespace Go.Proofs.YtccpepheooleoaaDoor
set_option linter.unusedVariables false
set_option linter.unusedSimpArgs false
def gtab : GT := [(0, false, [(.int .u8)])]
def globT : Nat → TV := fun n => if n = 0 then brailleT else .list []
end Go.Proofs.YtccpepheooleoaaDoor
