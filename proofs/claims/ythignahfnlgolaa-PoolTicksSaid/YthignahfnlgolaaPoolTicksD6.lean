/- Cases of the law PoolTicks, carried out by the symbolic executor: so many connections, such times. Conditions: none. -/
import Derived.Test.YthignahfnlgolaaCfg
namespace Go.Proofs.Ythignahfnlgolaa.poolTicks
open Go.Eng
def l2x5x0 : List Case := [1,2,3,4,5].map fun w => ⟨[], [.int .i64 2, .int .i64 5, .int .i64 w]⟩
theorem ok2x5x0 : allCases C2 100000 200 5 ⟨.e, 0⟩ l2x5x0 = true := by kernel_rfl
def l2x5x1 : List Case := [6,7,8,9,10].map fun w => ⟨[], [.int .i64 2, .int .i64 5, .int .i64 w]⟩
theorem ok2x5x1 : allCases C2 100000 200 5 ⟨.e, 0⟩ l2x5x1 = true := by kernel_rfl
def l2x6x0 : List Case := [1,2,3,4,5].map fun w => ⟨[], [.int .i64 2, .int .i64 6, .int .i64 w]⟩
theorem ok2x6x0 : allCases C2 100000 200 5 ⟨.e, 0⟩ l2x6x0 = true := by kernel_rfl
def l2x6x1 : List Case := [6,7,8,9,10].map fun w => ⟨[], [.int .i64 2, .int .i64 6, .int .i64 w]⟩
theorem ok2x6x1 : allCases C2 100000 200 5 ⟨.e, 0⟩ l2x6x1 = true := by kernel_rfl
def l2x7x0 : List Case := [1,2,3,4,5].map fun w => ⟨[], [.int .i64 2, .int .i64 7, .int .i64 w]⟩
theorem ok2x7x0 : allCases C2 100000 200 5 ⟨.e, 0⟩ l2x7x0 = true := by kernel_rfl
def l2x7x1 : List Case := [6,7,8,9,10].map fun w => ⟨[], [.int .i64 2, .int .i64 7, .int .i64 w]⟩
theorem ok2x7x1 : allCases C2 100000 200 5 ⟨.e, 0⟩ l2x7x1 = true := by kernel_rfl
def l2x8x0 : List Case := [1,2,3,4,5].map fun w => ⟨[], [.int .i64 2, .int .i64 8, .int .i64 w]⟩
theorem ok2x8x0 : allCases C2 100000 200 5 ⟨.e, 0⟩ l2x8x0 = true := by kernel_rfl
def l2x8x1 : List Case := [6,7,8,9,10].map fun w => ⟨[], [.int .i64 2, .int .i64 8, .int .i64 w]⟩
theorem ok2x8x1 : allCases C2 100000 200 5 ⟨.e, 0⟩ l2x8x1 = true := by kernel_rfl
end Go.Proofs.Ythignahfnlgolaa.poolTicks
