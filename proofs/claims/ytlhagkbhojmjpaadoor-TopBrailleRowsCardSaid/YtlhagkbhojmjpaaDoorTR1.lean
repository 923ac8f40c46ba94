/- Written by this repo's own program out of its texts. -/
import Derived.Test.YtlhagkbhojmjpaaDoorTK1
namespace Go.Proofs.YtlhagkbhojmjpaaDoor
end Go.Proofs.YtlhagkbhojmjpaaDoor

