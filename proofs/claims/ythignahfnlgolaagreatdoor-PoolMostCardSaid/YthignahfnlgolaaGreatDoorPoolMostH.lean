/- The code of the law PoolMost around its loop, carried out by the symbolic executor. Conditions: none. -/
import Derived.Test.YthignahfnlgolaaGreatDoorPoolMostS
namespace Go.Proofs.YthignahfnlgolaaGreatDoor.poolMost
open Go.Eng
theorem exits : allN 11 exitE = true := by kernel_rfl
theorem head0 : headH 0 = true := by kernel_rfl
theorem head1 : headH 1 = true := by kernel_rfl
theorem head2 : headH 2 = true := by kernel_rfl
theorem head3 : headH 3 = true := by kernel_rfl
theorem head4 : headH 4 = true := by kernel_rfl
theorem head5 : headH 5 = true := by kernel_rfl
theorem head6 : headH 6 = true := by kernel_rfl
theorem head7 : headH 7 = true := by kernel_rfl
theorem head8 : headH 8 = true := by kernel_rfl
theorem head9 : headH 9 = true := by kernel_rfl
theorem head10 : headH 10 = true := by kernel_rfl
end Go.Proofs.YthignahfnlgolaaGreatDoor.poolMost
