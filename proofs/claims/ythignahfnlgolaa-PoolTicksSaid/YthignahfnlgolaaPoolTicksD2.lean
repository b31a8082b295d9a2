/- Cases of the law PoolTicks, carried out by the symbolic executor: so many connections, such times. Conditions: none. -/
import Derived.Test.YthignahfnlgolaaCfg
namespace Go.Proofs.Ythignahfnlgolaa.poolTicks
open Go.Eng
def l3x6x3 : List Case := [1,2,3].map fun w => ⟨[], [.int .i64 3, .int .i64 6, .int .i64 w]⟩
theorem ok3x6x3 : allCases C2 100000 200 5 ⟨.e, 0⟩ l3x6x3 = true := by kernel_rfl
def l3x6x4 : List Case := [4,5,6].map fun w => ⟨[], [.int .i64 3, .int .i64 6, .int .i64 w]⟩
theorem ok3x6x4 : allCases C2 100000 200 5 ⟨.e, 0⟩ l3x6x4 = true := by kernel_rfl
def l3x6x5 : List Case := [7,8].map fun w => ⟨[], [.int .i64 3, .int .i64 6, .int .i64 w]⟩
theorem ok3x6x5 : allCases C2 100000 200 5 ⟨.e, 0⟩ l3x6x5 = true := by kernel_rfl
def l3x6x6 : List Case := [9,10].map fun w => ⟨[], [.int .i64 3, .int .i64 6, .int .i64 w]⟩
theorem ok3x6x6 : allCases C2 100000 200 5 ⟨.e, 0⟩ l3x6x6 = true := by kernel_rfl
def l3x7x3 : List Case := [1,2,3].map fun w => ⟨[], [.int .i64 3, .int .i64 7, .int .i64 w]⟩
theorem ok3x7x3 : allCases C2 100000 200 5 ⟨.e, 0⟩ l3x7x3 = true := by kernel_rfl
def l3x7x4 : List Case := [4,5,6].map fun w => ⟨[], [.int .i64 3, .int .i64 7, .int .i64 w]⟩
theorem ok3x7x4 : allCases C2 100000 200 5 ⟨.e, 0⟩ l3x7x4 = true := by kernel_rfl
def l3x7x5 : List Case := [7,8].map fun w => ⟨[], [.int .i64 3, .int .i64 7, .int .i64 w]⟩
theorem ok3x7x5 : allCases C2 100000 200 5 ⟨.e, 0⟩ l3x7x5 = true := by kernel_rfl
def l3x7x6 : List Case := [9,10].map fun w => ⟨[], [.int .i64 3, .int .i64 7, .int .i64 w]⟩
theorem ok3x7x6 : allCases C2 100000 200 5 ⟨.e, 0⟩ l3x7x6 = true := by kernel_rfl
end Go.Proofs.Ythignahfnlgolaa.poolTicks
