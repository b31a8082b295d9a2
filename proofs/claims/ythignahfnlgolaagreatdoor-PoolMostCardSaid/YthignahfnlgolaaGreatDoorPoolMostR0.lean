/- Rounds of the law PoolMost, carried out by the symbolic executor. Conditions: none. -/
import Derived.Test.YthignahfnlgolaaGreatDoorPoolMostS
namespace Go.Proofs.YthignahfnlgolaaGreatDoor.poolMost
theorem round0 : roundR 0 = true := by kernel_rfl
theorem round1 : roundR 1 = true := by kernel_rfl
end Go.Proofs.YthignahfnlgolaaGreatDoor.poolMost
