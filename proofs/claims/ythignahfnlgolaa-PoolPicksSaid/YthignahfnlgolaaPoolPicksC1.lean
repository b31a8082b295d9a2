/- Cases of the law PoolPicks, carried out by the symbolic executor: so many connections, so many marks. Conditions: none. -/
import Derived.Test.YthignahfnlgolaaCfg
import Derived.Test.YthignahfnlgolaaEngB
namespace Go.Proofs.Ythignahfnlgolaa.poolPicks
open Go.Eng
theorem ok2x2x0 : okCase2 C2 100000 200 4 (stB [true, true]) ⟨[], [.int .i64 2, slN 2]⟩ = true := by kernel_rfl
theorem ok2x2x1 : okCase2 C2 100000 200 4 (stB [true, false]) ⟨[], [.int .i64 2, slN 2]⟩ = true := by kernel_rfl
theorem ok2x2x2 : okCase2 C2 100000 200 4 (stB [false, true]) ⟨[], [.int .i64 2, slN 2]⟩ = true := by kernel_rfl
theorem ok2x2x3 : okCase2 C2 100000 200 4 (stB [false, false]) ⟨[], [.int .i64 2, slN 2]⟩ = true := by kernel_rfl
theorem ok2x3x0 : okCase2 C2 100000 200 4 (stB [true, true, true]) ⟨[], [.int .i64 2, slN 3]⟩ = true := by kernel_rfl
theorem ok2x3x1 : okCase2 C2 100000 200 4 (stB [true, true, false]) ⟨[], [.int .i64 2, slN 3]⟩ = true := by kernel_rfl
theorem ok2x3x2 : okCase2 C2 100000 200 4 (stB [true, false, true]) ⟨[], [.int .i64 2, slN 3]⟩ = true := by kernel_rfl
theorem ok2x3x3 : okCase2 C2 100000 200 4 (stB [true, false, false]) ⟨[], [.int .i64 2, slN 3]⟩ = true := by kernel_rfl
theorem ok2x3x4 : okCase2 C2 100000 200 4 (stB [false, true, true]) ⟨[], [.int .i64 2, slN 3]⟩ = true := by kernel_rfl
theorem ok2x3x5 : okCase2 C2 100000 200 4 (stB [false, true, false]) ⟨[], [.int .i64 2, slN 3]⟩ = true := by kernel_rfl
theorem ok2x3x6 : okCase2 C2 100000 200 4 (stB [false, false, true]) ⟨[], [.int .i64 2, slN 3]⟩ = true := by kernel_rfl
theorem ok2x3x7 : okCase2 C2 100000 200 4 (stB [false, false, false]) ⟨[], [.int .i64 2, slN 3]⟩ = true := by kernel_rfl
end Go.Proofs.Ythignahfnlgolaa.poolPicks
