/- The rounds of the law PoolDials, each from a pool of so many connections, with either mark, are run by the symbolic executor; so is the law's code ahead of its loop, at each length. Conditions: none. -/
import Derived.Test.YthignahfnlgolaaCfg
import Derived.Test.YthignahfnlgolaaEngV
namespace Go.Proofs.Ythignahfnlgolaa.poolDials
open Go.Eng
noncomputable def body : Code := match Try.f3.body with | some c => c | none => .skip
noncomputable def x : Code := loopOf (holes hL body)
noncomputable def ops : Array Oper := opsOf (holes (hE 9) x)
noncomputable def op (i : Nat) : Oper := match ops[i]? with | some o => o | none => default
noncomputable def M : Nat := masks.getD 3 0
def T : LT := ⟨23, 24, 25, 27, 28, 6, 2, 0⟩
theorem body_eq : Try.f3.body = some body := by kernel_rfl
theorem holes_body : holes hL body = [(0, .loop x)] := by kernel_rfl
theorem holes_x : holes (hE 9) x = [(1, .region 9 ops false)] := by kernel_rfl
theorem size : ops.size = 3 := by kernel_rfl
theorem at0 : ops[0]? = some (op 0) := by kernel_rfl
theorem at1 : ops[1]? = some (op 1) := by kernel_rfl
theorem at2 : ops[2]? = some (op 2) := by kernel_rfl
theorem g0 : (op 0).guard = none := by kernel_rfl
theorem g1 : (op 1).guard = none := by kernel_rfl
theorem g2 : (op 2).guard = none := by kernel_rfl
theorem p0 : (op 0).op = .indexAddr 22 (.tmp T.ts) (.tmp T.ti) := by kernel_rfl
theorem p1 : (op 1).op = .load 4 (.tmp T.d0) := by kernel_rfl
theorem p2 : (op 2).op = .assign (.tmp T.d1) := by kernel_rfl
theorem q0 : (op 0).dst = some T.d0 := by kernel_rfl
theorem q1 : (op 1).dst = some T.d1 := by kernel_rfl
theorem q2 : (op 2).dst = some T.d2 := by kernel_rfl
theorem und22 : Go.Eng.und Try.prog 22 = some (.slice 4) := by kernel_rfl
theorem size4 : Go.Eng.sizeOf Try.prog 4 = 1 := by kernel_rfl
theorem agg4 : Go.Eng.agg? Try.prog 4 = some false := by kernel_rfl
/-- the pool's cells: how it is to be, how many at most, how many there were, whether one is being dialled, its map -/
def poolCs (k m : Nat) : List LV := [.int .i64 100, .int .i64 1, .int .i64 5, .int .i64 5, .int .i64 3, .int .i64 (.ofNat k), .bool false, .map m]
/-- the map's entries: whatever lies at them -/
def ents : Nat → List (LV × LV × Nat)
  | 0 => []
  | k + 1 => ents k ++ [(.int .i64 (.ofNat (k + 1)), .bad, k)]
noncomputable def stD (k : Nat) : St := ⟨Tr.set (Tr.set .e 1 (some (.cells (poolCs k 2) 1 0))) 2 (some (.map (ents k) k)), 3⟩
noncomputable def sameKeys : List (LV × LV × Nat) → List (LV × LV × Nat) → Bool
  | [], [] => true
  | (x, _, a) :: r, (y, _, b) :: s => LV.beq x y && Nat.beq a b && sameKeys r s
  | _, _ => false
noncomputable def okAt (k p q : Nat) (σ : St) : Bool := match σ.hp.get p with
  | some (.cells cs _ st) => (match σ.hp.get q with
    | some (.map es c) => LV.beqs cs (poolCs k q) && Nat.ble st 2 && Nat.beq c k && sameKeys es (ents k)
    | _ => false)
  | _ => false
def asD (k : Nat) : AS := [(3, .ptr 1 0), (4, .int .i64 (.ofNat k))]
noncomputable def kD (k : Nat) : ExK (List LV) := fun o fr σ => match o with
  | .normal => cond (fits1 fr (asD k) && nextIx T fr && okAt k 1 2 σ) (some [getV (fr.get T.ts)]) none
  | _ => none
noncomputable def kX : ExK (List LV) := fun o _ _ => match o with
  | .exit id => cond (Nat.beq id T.xid) (some []) none
  | _ => none
noncomputable def CD : Cfg := ⟨Try.prog, fun f => masks.getD f 0, prims2, [(.lss, .var 1, .var 2, true)], []⟩
noncomputable def CX : Cfg := ⟨Try.prog, fun f => masks.getD f 0, prims2, [(.lss, .var 1, .var 2, false)], []⟩
noncomputable def roundD (n : Nat) (b : Bool) (k : Nat) : Option (List LV) :=
  runH CD (call CD 100000 200) (callV CD 100000 200) 1000 (hdR M T (.bool b)) (compH Try.prog M Try.f3.ntmps (hE 9) x) (mkFr ((T.ts, slN n) :: ixs T (asD k))) (stD k) (kD (cond b (k + 1) k))
noncomputable def exitD : Option (List LV) := runH CX (call CX 100000 200) (callV CX 100000 200) 1000 (fun _ _ _ _ => none) (compH Try.prog M Try.f3.ntmps (hE 9) x) (mkFr (ixs T [])) ⟨.e, 3⟩ kX
def l20 : List Nat := [0, 1, 2, 3, 4, 5, 6, 7, 8, 9, 10, 11, 12, 13, 14, 15, 16, 17, 18, 19]
theorem roundsF (n : Nat) : collect (roundD n false) l20 = some (List.replicate 40 (slN n)) := by kernel_rfl
theorem roundsT (n : Nat) : collect (roundD n true) l20 = some (List.replicate 40 (slN n)) := by kernel_rfl
theorem exits : exitD = some [] := by kernel_rfl
theorem keys : (l20.all fun k => keysOk M ((T.ts, LV.nilslice) :: ixs T (asD k))) = true := by kernel_rfl
end Go.Proofs.Ythignahfnlgolaa.poolDials
