/- Written by this repo's own program out of its texts. -/
import Derived.Test.YtgdlkhemopildaaDoorQC1
namespace Go.Proofs.YtgdlkhemopildaaDoor
end Go.Proofs.YtgdlkhemopildaaDoor

