/- The walk of intagliolaw23.BoardNil, part 2, 5: the law answers true where the op's kind, and what else parts ways, are these. -/
import Derived.Test.YtmamgkangmnkdaaGreatDoorWalk1
namespace Go.Proofs.YtmamgkangmnkdaaGreatDoor
open Go Go.Sx
set_option maxRecDepth 100000
theorem rf12_0 : law [isK 12, isQ 0] = true := by kernel_rfl
theorem rf12_1 : law [isK 12, isQ 1] = true := by kernel_rfl
theorem rf12_2 : law [isK 12, isQ 2] = true := by kernel_rfl
theorem rf12_3 : law [isK 12, isQ 3] = true := by kernel_rfl
theorem rf12_4 : law [isK 12, isQ 4] = true := by kernel_rfl
theorem rf12_5 : law [isK 12, isQ 5] = true := by kernel_rfl
theorem rf12_6 : law [isK 12, isQ 6] = true := by kernel_rfl
theorem rf12_7 : law [isK 12, isQ 7] = true := by kernel_rfl
end Go.Proofs.YtmamgkangmnkdaaGreatDoor
