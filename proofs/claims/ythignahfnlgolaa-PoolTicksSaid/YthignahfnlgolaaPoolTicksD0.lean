/- Cases of the law PoolTicks, carried out by the symbolic executor: so many connections, such times. Conditions: none. -/
import Derived.Test.YthignahfnlgolaaCfg
namespace Go.Proofs.Ythignahfnlgolaa.poolTicks
open Go.Eng
def l3x1x3 : List Case := [1,2,3].map fun w => ⟨[], [.int .i64 3, .int .i64 1, .int .i64 w]⟩
theorem ok3x1x3 : allCases C2 100000 200 5 ⟨.e, 0⟩ l3x1x3 = true := by kernel_rfl
def l3x1x4 : List Case := [4,5,6].map fun w => ⟨[], [.int .i64 3, .int .i64 1, .int .i64 w]⟩
theorem ok3x1x4 : allCases C2 100000 200 5 ⟨.e, 0⟩ l3x1x4 = true := by kernel_rfl
def l3x1x5 : List Case := [7,8].map fun w => ⟨[], [.int .i64 3, .int .i64 1, .int .i64 w]⟩
theorem ok3x1x5 : allCases C2 100000 200 5 ⟨.e, 0⟩ l3x1x5 = true := by kernel_rfl
def l3x1x6 : List Case := [9,10].map fun w => ⟨[], [.int .i64 3, .int .i64 1, .int .i64 w]⟩
theorem ok3x1x6 : allCases C2 100000 200 5 ⟨.e, 0⟩ l3x1x6 = true := by kernel_rfl
def l3x2x3 : List Case := [1,2,3].map fun w => ⟨[], [.int .i64 3, .int .i64 2, .int .i64 w]⟩
theorem ok3x2x3 : allCases C2 100000 200 5 ⟨.e, 0⟩ l3x2x3 = true := by kernel_rfl
def l3x2x4 : List Case := [4,5,6].map fun w => ⟨[], [.int .i64 3, .int .i64 2, .int .i64 w]⟩
theorem ok3x2x4 : allCases C2 100000 200 5 ⟨.e, 0⟩ l3x2x4 = true := by kernel_rfl
def l3x2x5 : List Case := [7,8].map fun w => ⟨[], [.int .i64 3, .int .i64 2, .int .i64 w]⟩
theorem ok3x2x5 : allCases C2 100000 200 5 ⟨.e, 0⟩ l3x2x5 = true := by kernel_rfl
def l3x2x6 : List Case := [9,10].map fun w => ⟨[], [.int .i64 3, .int .i64 2, .int .i64 w]⟩
theorem ok3x2x6 : allCases C2 100000 200 5 ⟨.e, 0⟩ l3x2x6 = true := by kernel_rfl
def l3x3x3 : List Case := [1,2,3].map fun w => ⟨[], [.int .i64 3, .int .i64 3, .int .i64 w]⟩
theorem ok3x3x3 : allCases C2 100000 200 5 ⟨.e, 0⟩ l3x3x3 = true := by kernel_rfl
def l3x3x4 : List Case := [4,5,6].map fun w => ⟨[], [.int .i64 3, .int .i64 3, .int .i64 w]⟩
theorem ok3x3x4 : allCases C2 100000 200 5 ⟨.e, 0⟩ l3x3x4 = true := by kernel_rfl
def l3x3x5 : List Case := [7,8].map fun w => ⟨[], [.int .i64 3, .int .i64 3, .int .i64 w]⟩
theorem ok3x3x5 : allCases C2 100000 200 5 ⟨.e, 0⟩ l3x3x5 = true := by kernel_rfl
def l3x3x6 : List Case := [9,10].map fun w => ⟨[], [.int .i64 3, .int .i64 3, .int .i64 w]⟩
theorem ok3x3x6 : allCases C2 100000 200 5 ⟨.e, 0⟩ l3x3x6 = true := by kernel_rfl
end Go.Proofs.Ythignahfnlgolaa.poolTicks
