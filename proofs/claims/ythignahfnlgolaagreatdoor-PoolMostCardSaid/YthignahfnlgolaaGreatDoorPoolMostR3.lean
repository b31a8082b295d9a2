/- Rounds of the law PoolMost, carried out by the symbolic executor. Conditions: none. -/
import Derived.Test.YthignahfnlgolaaGreatDoorPoolMostS
namespace Go.Proofs.YthignahfnlgolaaGreatDoor.poolMost
theorem round6 : roundR 6 = true := by kernel_rfl
theorem round7 : roundR 7 = true := by kernel_rfl
end Go.Proofs.YthignahfnlgolaaGreatDoor.poolMost
