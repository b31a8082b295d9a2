/- Cases of the law PoolTicks, carried out by the symbolic executor: so many connections, such times. Conditions: none. -/
import Derived.Test.YthignahfnlgolaaCfg
namespace Go.Proofs.Ythignahfnlgolaa.poolTicks
open Go.Eng
def l3x10x3 : List Case := [1,2,3].map fun w => ⟨[], [.int .i64 3, .int .i64 10, .int .i64 w]⟩
theorem ok3x10x3 : allCases C2 100000 200 5 ⟨.e, 0⟩ l3x10x3 = true := by kernel_rfl
def l3x10x4 : List Case := [4,5,6].map fun w => ⟨[], [.int .i64 3, .int .i64 10, .int .i64 w]⟩
theorem ok3x10x4 : allCases C2 100000 200 5 ⟨.e, 0⟩ l3x10x4 = true := by kernel_rfl
def l3x10x5 : List Case := [7,8].map fun w => ⟨[], [.int .i64 3, .int .i64 10, .int .i64 w]⟩
theorem ok3x10x5 : allCases C2 100000 200 5 ⟨.e, 0⟩ l3x10x5 = true := by kernel_rfl
def l3x10x6 : List Case := [9,10].map fun w => ⟨[], [.int .i64 3, .int .i64 10, .int .i64 w]⟩
theorem ok3x10x6 : allCases C2 100000 200 5 ⟨.e, 0⟩ l3x10x6 = true := by kernel_rfl
def l2x9x0 : List Case := [1,2,3,4,5].map fun w => ⟨[], [.int .i64 2, .int .i64 9, .int .i64 w]⟩
theorem ok2x9x0 : allCases C2 100000 200 5 ⟨.e, 0⟩ l2x9x0 = true := by kernel_rfl
def l2x9x1 : List Case := [6,7,8,9,10].map fun w => ⟨[], [.int .i64 2, .int .i64 9, .int .i64 w]⟩
theorem ok2x9x1 : allCases C2 100000 200 5 ⟨.e, 0⟩ l2x9x1 = true := by kernel_rfl
def l2x10x0 : List Case := [1,2,3,4,5].map fun w => ⟨[], [.int .i64 2, .int .i64 10, .int .i64 w]⟩
theorem ok2x10x0 : allCases C2 100000 200 5 ⟨.e, 0⟩ l2x10x0 = true := by kernel_rfl
def l2x10x1 : List Case := [6,7,8,9,10].map fun w => ⟨[], [.int .i64 2, .int .i64 10, .int .i64 w]⟩
theorem ok2x10x1 : allCases C2 100000 200 5 ⟨.e, 0⟩ l2x10x1 = true := by kernel_rfl
end Go.Proofs.Ythignahfnlgolaa.poolTicks
