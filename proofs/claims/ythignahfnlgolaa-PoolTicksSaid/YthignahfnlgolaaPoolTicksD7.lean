/- Cases of the law PoolTicks, carried out by the symbolic executor: so many connections, such times. Conditions: none. -/
import Derived.Test.YthignahfnlgolaaCfg
namespace Go.Proofs.Ythignahfnlgolaa.poolTicks
open Go.Eng
def l1x1x2 : List Case := [1,2,3,4,5,6,7,8,9,10].map fun w => ⟨[], [.int .i64 1, .int .i64 1, .int .i64 w]⟩
theorem ok1x1x2 : allCases C2 100000 200 5 ⟨.e, 0⟩ l1x1x2 = true := by kernel_rfl
def l1x2x2 : List Case := [1,2,3,4,5,6,7,8,9,10].map fun w => ⟨[], [.int .i64 1, .int .i64 2, .int .i64 w]⟩
theorem ok1x2x2 : allCases C2 100000 200 5 ⟨.e, 0⟩ l1x2x2 = true := by kernel_rfl
def l1x3x2 : List Case := [1,2,3,4,5,6,7,8,9,10].map fun w => ⟨[], [.int .i64 1, .int .i64 3, .int .i64 w]⟩
theorem ok1x3x2 : allCases C2 100000 200 5 ⟨.e, 0⟩ l1x3x2 = true := by kernel_rfl
def l1x4x2 : List Case := [1,2,3,4,5,6,7,8,9,10].map fun w => ⟨[], [.int .i64 1, .int .i64 4, .int .i64 w]⟩
theorem ok1x4x2 : allCases C2 100000 200 5 ⟨.e, 0⟩ l1x4x2 = true := by kernel_rfl
def l1x5x2 : List Case := [1,2,3,4,5,6,7,8,9,10].map fun w => ⟨[], [.int .i64 1, .int .i64 5, .int .i64 w]⟩
theorem ok1x5x2 : allCases C2 100000 200 5 ⟨.e, 0⟩ l1x5x2 = true := by kernel_rfl
def l1x6x2 : List Case := [1,2,3,4,5,6,7,8,9,10].map fun w => ⟨[], [.int .i64 1, .int .i64 6, .int .i64 w]⟩
theorem ok1x6x2 : allCases C2 100000 200 5 ⟨.e, 0⟩ l1x6x2 = true := by kernel_rfl
def l1x7x2 : List Case := [1,2,3,4,5,6,7,8,9,10].map fun w => ⟨[], [.int .i64 1, .int .i64 7, .int .i64 w]⟩
theorem ok1x7x2 : allCases C2 100000 200 5 ⟨.e, 0⟩ l1x7x2 = true := by kernel_rfl
def l1x8x2 : List Case := [1,2,3,4,5,6,7,8,9,10].map fun w => ⟨[], [.int .i64 1, .int .i64 8, .int .i64 w]⟩
theorem ok1x8x2 : allCases C2 100000 200 5 ⟨.e, 0⟩ l1x8x2 = true := by kernel_rfl
def l1x9x2 : List Case := [1,2,3,4,5,6,7,8,9,10].map fun w => ⟨[], [.int .i64 1, .int .i64 9, .int .i64 w]⟩
theorem ok1x9x2 : allCases C2 100000 200 5 ⟨.e, 0⟩ l1x9x2 = true := by kernel_rfl
def l1x10x2 : List Case := [1,2,3,4,5,6,7,8,9,10].map fun w => ⟨[], [.int .i64 1, .int .i64 10, .int .i64 w]⟩
theorem ok1x10x2 : allCases C2 100000 200 5 ⟨.e, 0⟩ l1x10x2 = true := by kernel_rfl
end Go.Proofs.Ythignahfnlgolaa.poolTicks
