/- Written by this repo's own program out of its texts. -/
import Derived.Test.YtlhagkbhojmjpaaGreatDoorRC1
namespace Go.Proofs.YtlhagkbhojmjpaaGreatDoor
end Go.Proofs.YtlhagkbhojmjpaaGreatDoor

