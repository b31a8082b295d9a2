/- The ticks of the law PoolTicks, of each kind, and its code around its loop, carried out by the symbolic executor. Conditions: none. -/
import Derived.Test.YthignahfnlgolaaPoolTicksS
namespace Go.Proofs.Ythignahfnlgolaa.poolTicks
open Go.Eng
theorem tAA1 : tick fAA 1 (sA 1) (kT 1 fS (sA 1)) = true := by kernel_rfl
theorem tAB1 : tick fAB 1 (sA 1) (kT 1 fB (sB 1)) = true := by kernel_rfl
theorem tBB1 : tick fBB 1 (sB 1) (kT 1 fS (sB 1)) = true := by kernel_rfl
theorem tX1 : tick fX 1 (sB 1) (kX 1) = true := by kernel_rfl
theorem tH1 : headT 1 = true := by kernel_rfl
theorem tK1 : keysOk M (frT 1) = true := by kernel_rfl
theorem tAA2 : tick fAA 2 (sA 2) (kT 2 fS (sA 2)) = true := by kernel_rfl
theorem tAB2 : tick fAB 2 (sA 2) (kT 2 fB (sB 2)) = true := by kernel_rfl
theorem tBB2 : tick fBB 2 (sB 2) (kT 2 fS (sB 2)) = true := by kernel_rfl
theorem tX2 : tick fX 2 (sB 2) (kX 2) = true := by kernel_rfl
theorem tH2 : headT 2 = true := by kernel_rfl
theorem tK2 : keysOk M (frT 2) = true := by kernel_rfl
theorem tAA3 : tick fAA 3 (sA 3) (kT 3 fS (sA 3)) = true := by kernel_rfl
theorem tAB3 : tick fAB 3 (sA 3) (kT 3 fB (sB 3)) = true := by kernel_rfl
theorem tBB3 : tick fBB 3 (sB 3) (kT 3 fS (sB 3)) = true := by kernel_rfl
theorem tX3 : tick fX 3 (sB 3) (kX 3) = true := by kernel_rfl
theorem tH3 : headT 3 = true := by kernel_rfl
theorem tK3 : keysOk M (frT 3) = true := by kernel_rfl
end Go.Proofs.Ythignahfnlgolaa.poolTicks
