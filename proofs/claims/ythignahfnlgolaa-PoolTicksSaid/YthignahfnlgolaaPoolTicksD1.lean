/- Cases of the law PoolTicks, carried out by the symbolic executor: so many connections, such times. Conditions: none. -/
import Derived.Test.YthignahfnlgolaaCfg
namespace Go.Proofs.Ythignahfnlgolaa.poolTicks
open Go.Eng
def l3x4x3 : List Case := [1,2,3].map fun w => ⟨[], [.int .i64 3, .int .i64 4, .int .i64 w]⟩
theorem ok3x4x3 : allCases C2 100000 200 5 ⟨.e, 0⟩ l3x4x3 = true := by kernel_rfl
def l3x4x4 : List Case := [4,5,6].map fun w => ⟨[], [.int .i64 3, .int .i64 4, .int .i64 w]⟩
theorem ok3x4x4 : allCases C2 100000 200 5 ⟨.e, 0⟩ l3x4x4 = true := by kernel_rfl
def l3x4x5 : List Case := [7,8].map fun w => ⟨[], [.int .i64 3, .int .i64 4, .int .i64 w]⟩
theorem ok3x4x5 : allCases C2 100000 200 5 ⟨.e, 0⟩ l3x4x5 = true := by kernel_rfl
def l3x4x6 : List Case := [9,10].map fun w => ⟨[], [.int .i64 3, .int .i64 4, .int .i64 w]⟩
theorem ok3x4x6 : allCases C2 100000 200 5 ⟨.e, 0⟩ l3x4x6 = true := by kernel_rfl
def l3x5x3 : List Case := [1,2,3].map fun w => ⟨[], [.int .i64 3, .int .i64 5, .int .i64 w]⟩
theorem ok3x5x3 : allCases C2 100000 200 5 ⟨.e, 0⟩ l3x5x3 = true := by kernel_rfl
def l3x5x4 : List Case := [4,5,6].map fun w => ⟨[], [.int .i64 3, .int .i64 5, .int .i64 w]⟩
theorem ok3x5x4 : allCases C2 100000 200 5 ⟨.e, 0⟩ l3x5x4 = true := by kernel_rfl
def l3x5x5 : List Case := [7,8].map fun w => ⟨[], [.int .i64 3, .int .i64 5, .int .i64 w]⟩
theorem ok3x5x5 : allCases C2 100000 200 5 ⟨.e, 0⟩ l3x5x5 = true := by kernel_rfl
def l3x5x6 : List Case := [9,10].map fun w => ⟨[], [.int .i64 3, .int .i64 5, .int .i64 w]⟩
theorem ok3x5x6 : allCases C2 100000 200 5 ⟨.e, 0⟩ l3x5x6 = true := by kernel_rfl
end Go.Proofs.Ythignahfnlgolaa.poolTicks
