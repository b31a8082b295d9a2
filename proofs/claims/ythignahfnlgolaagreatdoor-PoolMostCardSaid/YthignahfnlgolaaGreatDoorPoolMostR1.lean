/- Rounds of the law PoolMost, carried out by the symbolic executor. Conditions: none. -/
import Derived.Test.YthignahfnlgolaaGreatDoorPoolMostS
namespace Go.Proofs.YthignahfnlgolaaGreatDoor.poolMost
theorem round2 : roundR 2 = true := by kernel_rfl
theorem round3 : roundR 3 = true := by kernel_rfl
end Go.Proofs.YthignahfnlgolaaGreatDoor.poolMost
