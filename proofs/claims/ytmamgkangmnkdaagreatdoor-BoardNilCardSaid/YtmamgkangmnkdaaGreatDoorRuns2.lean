/- The walk of intagliolaw23.BoardNil, part 2, 2: the law answers true where the op's kind, and what else parts ways, are these. -/
import Derived.Test.YtmamgkangmnkdaaGreatDoorWalk1
namespace Go.Proofs.YtmamgkangmnkdaaGreatDoor
open Go Go.Sx
set_option maxRecDepth 100000
theorem rp5_0 : law [isK 5, isN 0] = true := by kernel_rfl
theorem rp5_1 : law [isK 5, isN 1] = true := by kernel_rfl
theorem rp5_2 : law [isK 5, isN 2] = true := by kernel_rfl
theorem rp5_3 : law [isK 5, isN 3] = true := by kernel_rfl
end Go.Proofs.YtmamgkangmnkdaaGreatDoor
