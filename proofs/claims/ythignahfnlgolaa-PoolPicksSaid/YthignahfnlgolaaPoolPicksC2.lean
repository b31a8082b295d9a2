/- Cases of the law PoolPicks, carried out by the symbolic executor: so many connections, so many marks. Conditions: none. -/
import Derived.Test.YthignahfnlgolaaCfg
import Derived.Test.YthignahfnlgolaaEngB
namespace Go.Proofs.Ythignahfnlgolaa.poolPicks
open Go.Eng
theorem ok3x1x0 : okCase2 C2 100000 200 4 (stB [true]) ⟨[], [.int .i64 3, slN 1]⟩ = true := by kernel_rfl
theorem ok3x1x1 : okCase2 C2 100000 200 4 (stB [false]) ⟨[], [.int .i64 3, slN 1]⟩ = true := by kernel_rfl
theorem ok3x2x0 : okCase2 C2 100000 200 4 (stB [true, true]) ⟨[], [.int .i64 3, slN 2]⟩ = true := by kernel_rfl
theorem ok3x2x1 : okCase2 C2 100000 200 4 (stB [true, false]) ⟨[], [.int .i64 3, slN 2]⟩ = true := by kernel_rfl
theorem ok3x2x2 : okCase2 C2 100000 200 4 (stB [false, true]) ⟨[], [.int .i64 3, slN 2]⟩ = true := by kernel_rfl
theorem ok3x2x3 : okCase2 C2 100000 200 4 (stB [false, false]) ⟨[], [.int .i64 3, slN 2]⟩ = true := by kernel_rfl
end Go.Proofs.Ythignahfnlgolaa.poolPicks
