/- The walk of intagliolaw23.BoardNil, part 2, 7: the law answers true where the op's kind, and what else parts ways, are these. -/
import Derived.Test.YtmamgkangmnkdaaGreatDoorWalk1
namespace Go.Proofs.YtmamgkangmnkdaaGreatDoor
open Go Go.Sx
set_option maxRecDepth 100000
theorem ro9 : law [isK 9] = true := by kernel_rfl
theorem ro10 : law [isK 10] = true := by kernel_rfl
theorem ro13 : law [isK 13] = true := by kernel_rfl
theorem ro14 : law [isK 14] = true := by kernel_rfl
theorem ro15 : law [isK 15] = true := by kernel_rfl
end Go.Proofs.YtmamgkangmnkdaaGreatDoor
