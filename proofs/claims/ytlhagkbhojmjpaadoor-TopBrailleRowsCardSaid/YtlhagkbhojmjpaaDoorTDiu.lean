/- Written by this repo's own program out of its texts. -/
import Derived.Test.YtlhagkbhojmjpaaDoorTDit
namespace Go.Proofs.YtlhagkbhojmjpaaDoor
set_option linter.unusedSimpArgs false
set_option linter.unusedVariables false
set_option linter.unusedSectionVars false
end Go.Proofs.YtlhagkbhojmjpaaDoor

