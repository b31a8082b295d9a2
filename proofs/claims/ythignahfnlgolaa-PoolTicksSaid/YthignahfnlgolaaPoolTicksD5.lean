/- Cases of the law PoolTicks, carried out by the symbolic executor: so many connections, such times. Conditions: none. -/
import Derived.Test.YthignahfnlgolaaCfg
namespace Go.Proofs.Ythignahfnlgolaa.poolTicks
open Go.Eng
def l2x1x0 : List Case := [1,2,3,4,5].map fun w => ⟨[], [.int .i64 2, .int .i64 1, .int .i64 w]⟩
theorem ok2x1x0 : allCases C2 100000 200 5 ⟨.e, 0⟩ l2x1x0 = true := by kernel_rfl
def l2x1x1 : List Case := [6,7,8,9,10].map fun w => ⟨[], [.int .i64 2, .int .i64 1, .int .i64 w]⟩
theorem ok2x1x1 : allCases C2 100000 200 5 ⟨.e, 0⟩ l2x1x1 = true := by kernel_rfl
def l2x2x0 : List Case := [1,2,3,4,5].map fun w => ⟨[], [.int .i64 2, .int .i64 2, .int .i64 w]⟩
theorem ok2x2x0 : allCases C2 100000 200 5 ⟨.e, 0⟩ l2x2x0 = true := by kernel_rfl
def l2x2x1 : List Case := [6,7,8,9,10].map fun w => ⟨[], [.int .i64 2, .int .i64 2, .int .i64 w]⟩
theorem ok2x2x1 : allCases C2 100000 200 5 ⟨.e, 0⟩ l2x2x1 = true := by kernel_rfl
def l2x3x0 : List Case := [1,2,3,4,5].map fun w => ⟨[], [.int .i64 2, .int .i64 3, .int .i64 w]⟩
theorem ok2x3x0 : allCases C2 100000 200 5 ⟨.e, 0⟩ l2x3x0 = true := by kernel_rfl
def l2x3x1 : List Case := [6,7,8,9,10].map fun w => ⟨[], [.int .i64 2, .int .i64 3, .int .i64 w]⟩
theorem ok2x3x1 : allCases C2 100000 200 5 ⟨.e, 0⟩ l2x3x1 = true := by kernel_rfl
def l2x4x0 : List Case := [1,2,3,4,5].map fun w => ⟨[], [.int .i64 2, .int .i64 4, .int .i64 w]⟩
theorem ok2x4x0 : allCases C2 100000 200 5 ⟨.e, 0⟩ l2x4x0 = true := by kernel_rfl
def l2x4x1 : List Case := [6,7,8,9,10].map fun w => ⟨[], [.int .i64 2, .int .i64 4, .int .i64 w]⟩
theorem ok2x4x1 : allCases C2 100000 200 5 ⟨.e, 0⟩ l2x4x1 = true := by kernel_rfl
end Go.Proofs.Ythignahfnlgolaa.poolTicks
