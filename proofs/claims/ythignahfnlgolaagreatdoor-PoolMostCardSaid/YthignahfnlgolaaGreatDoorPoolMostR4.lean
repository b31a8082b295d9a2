/- Rounds of the law PoolMost, carried out by the symbolic executor. Conditions: none. -/
import Derived.Test.YthignahfnlgolaaGreatDoorPoolMostS
namespace Go.Proofs.YthignahfnlgolaaGreatDoor.poolMost
theorem round8 : roundR 8 = true := by kernel_rfl
theorem round9 : roundR 9 = true := by kernel_rfl
end Go.Proofs.YthignahfnlgolaaGreatDoor.poolMost
