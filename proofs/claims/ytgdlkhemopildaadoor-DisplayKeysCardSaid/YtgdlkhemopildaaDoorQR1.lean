/- Written by this repo's own program out of its texts. -/
import Derived.Test.YtgdlkhemopildaaDoorQK1
namespace Go.Proofs.YtgdlkhemopildaaDoor
set_option linter.unusedVariables false
set_option linter.unusedSimpArgs false
end Go.Proofs.YtgdlkhemopildaaDoor

