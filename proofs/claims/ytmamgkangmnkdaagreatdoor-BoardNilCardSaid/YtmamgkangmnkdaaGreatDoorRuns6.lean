/- The walk of intagliolaw23.BoardNil, part 2, 6: the law answers true where the op's kind, and what else parts ways, are these. -/
import Derived.Test.YtmamgkangmnkdaaGreatDoorWalk1
namespace Go.Proofs.YtmamgkangmnkdaaGreatDoor
open Go Go.Sx
set_option maxRecDepth 100000
theorem ro0 : law [isK 0] = true := by kernel_rfl
theorem ro1 : law [isK 1] = true := by kernel_rfl
theorem ro2 : law [isK 2] = true := by kernel_rfl
theorem ro7 : law [isK 7] = true := by kernel_rfl
theorem ro8 : law [isK 8] = true := by kernel_rfl
end Go.Proofs.YtmamgkangmnkdaaGreatDoor
