/- Rounds of the law PoolMost, carried out by the symbolic executor. Conditions: none. -/
import Derived.Test.YthignahfnlgolaaGreatDoorPoolMostS
namespace Go.Proofs.YthignahfnlgolaaGreatDoor.poolMost
theorem round4 : roundR 4 = true := by kernel_rfl
theorem round5 : roundR 5 = true := by kernel_rfl
end Go.Proofs.YthignahfnlgolaaGreatDoor.poolMost
