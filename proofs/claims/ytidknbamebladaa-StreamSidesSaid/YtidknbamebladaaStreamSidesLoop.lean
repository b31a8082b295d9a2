/- The rounds of the law StreamSides, each from one of a few states, at each kind of element, are run by the symbolic executor; so is the law's code ahead of its loop, at each length. Conditions: none. -/
import Derived.Test.YtidknbamebladaaEngS3
import Derived.Test.YtidknbamebladaaStreamCases
namespace Go.Proofs.Ytidknbamebladaa.streamSides
open Go.Eng
noncomputable def body : Code := match Try.f5.body with | some c => c | none => .skip
noncomputable def x : Code := loopOf (holes hL body)
noncomputable def ops : Array Oper := opsOf (holes (hE 7) x)
noncomputable def op (i : Nat) : Oper := match ops[i]? with | some o => o | none => default
def M : Nat := 2 ^ 256 - 1
def T : LT := ⟨23, 24, 25, 27, 28, 7, 2, 0⟩
def S : List AS := [[(5, .slice 1 1 0 5 (some 5)), (3, .int .i64 1), (4, .int .i64 1)], [(5, .slice 1 1 0 5 (some 5)), (3, .int .i64 2), (4, .int .i64 3)], [(5, .slice 1 1 0 5 (some 5)), (3, .int .i64 3), (4, .int .i64 2)]]
theorem body_eq : Try.f5.body = some body := by kernel_rfl
theorem holes_body : holes hL body = [(0, .loop x)] := by kernel_rfl
theorem holes_x : holes (hE 7) x = [(1, .region 7 ops false)] := by kernel_rfl
theorem size : ops.size = 3 := by kernel_rfl
theorem at0 : ops[0]? = some (op 0) := by kernel_rfl
theorem at1 : ops[1]? = some (op 1) := by kernel_rfl
theorem at2 : ops[2]? = some (op 2) := by kernel_rfl
theorem g0 : (op 0).guard = none := by kernel_rfl
theorem g1 : (op 1).guard = none := by kernel_rfl
theorem g2 : (op 2).guard = none := by kernel_rfl
theorem p0 : (op 0).op = .indexAddr 30 (.tmp T.ts) (.tmp T.ti) := by kernel_rfl
theorem p1 : (op 1).op = .load 3 (.tmp T.d0) := by kernel_rfl
theorem p2 : (op 2).op = .assign (.tmp T.d1) := by kernel_rfl
theorem q0 : (op 0).dst = some T.d0 := by kernel_rfl
theorem q1 : (op 1).dst = some T.d1 := by kernel_rfl
theorem q2 : (op 2).dst = some T.d2 := by kernel_rfl
theorem und30 : Go.Eng.und Try.prog 30 = some (.slice 3) := by kernel_rfl
theorem size3 : Go.Eng.sizeOf Try.prog 3 = 1 := by kernel_rfl
theorem agg3 : Go.Eng.agg? Try.prog 3 = some false := by kernel_rfl
noncomputable def sig : St := ⟨Tr.set .e 1 (some (.cells [.int .i64 0, .int .i64 1, .int .i64 3, .int .i64 2, .int .i64 4] 1 3)), 2⟩
theorem closed : (S.all fun s => s.all fun p => closedV 2 p.2) = true := by kernel_rfl
theorem keys : (S.all fun s => keysOk M ((T.ts, LV.nilslice) :: ixs T s)) = true := by kernel_rfl
theorem rounds (n : Nat) : collect (roundF Try.prog M Try.f5.ntmps (hE 7) x T S sig (slN n)) (pairs S ecs) = some (List.replicate 104 (slN n)) := by kernel_rfl
theorem exits : collect (exitF Try.prog M Try.f5.ntmps (hE 7) x T sig) S = some [] := by kernel_rfl
end Go.Proofs.Ytidknbamebladaa.streamSides
