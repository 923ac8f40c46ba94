/- Written by this repo's own program out of its texts. -/
import Derived.Test.YtgdlkhemopildaaDoorSC1
namespace Go.Proofs.YtgdlkhemopildaaDoor
end Go.Proofs.YtgdlkhemopildaaDoor

