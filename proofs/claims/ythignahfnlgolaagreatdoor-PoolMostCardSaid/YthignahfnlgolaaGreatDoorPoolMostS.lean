/- The states that the law PoolMost passes through, round by round: so many connections, each with one exchange and no number left. Conditions: none. -/
import Derived.Test.YthignahfnlgolaaGreatDoorCfg
import Derived.Test.YthignahfnlgolaaGreatDoorEngV
namespace Go.Proofs.YthignahfnlgolaaGreatDoor.poolMost
open Go.Eng
set_option maxRecDepth 100000
noncomputable def body : Code := match Tryz.f3.body with | some c => c | none => .skip
noncomputable def x : Code := loopOf (holes hL body)
noncomputable def M : Nat := masks.getD 3 0
theorem body_eq : Tryz.f3.body = some body := by kernel_rfl
theorem holes_body : holes hL body = [(0, .loop x)] := by kernel_rfl
/-- what is needed of a connection -/
def connO (d : Nat) : List (Nat × LO) := [(Nat.add 68 d, .cells [.int .i64 2147483647, .int .i64 2147483649] (Nat.add 68 d) 0), (Nat.add 70 d, .map [(.int .i64 2147483647, .ptr (Nat.add 131 d) 0, 0)] 1),
  (Nat.add 71 d, .cells [.int .i64 100, .int .i64 2147483647, .int .i64 5, .int .i64 5, .bool true, .str [80, 82, 73, 32, 42, 32, 72, 84, 84, 80, 47, 50, 46, 48, 13, 10, 13, 10, 83, 77, 13, 10, 13, 10, 0, 0, 18, 4, 0, 0, 0, 0, 0, 0, 2, 0, 0, 0, 0, 0, 4, 0, 0, 0, 100, 0, 6, 0, 0, 2, 88, 0, 0, 6, 1, 5, 127, 255, 255, 255, 130, 133, 65, 1, 97, 132], .int .i64 0,
    .ptr (Nat.add 61 d) 0, .ptr (Nat.add 62 d) 0, .ptr (Nat.add 64 d) 0, .ptr (Nat.add 66 d) 0, .int .i64 128, .int .i64 6, .int .i64 100, .int .i64 64, .int .i64 600, .int .i64 100, .int .i64 100, .int .i64 0, .int .i64 100, .int .i64 100, .int .i64 0,
    .ptr (Nat.add 68 d) 0, .ptr (Nat.add 69 d) 0, .map (Nat.add 70 d), .bool false, .bool false, .int .i64 0] (Nat.add 71 d) 0),
  (Nat.add 131 d, .cells [.int .i64 2147483647, .int .i64 2, .str [], .nilslice, .bool true, .int .i64 100, .int .i64 100, .int .i64 0, .int .i64 100, .int .i64 100, .int .i64 0, .ptr (Nat.add 129 d) 0, .ptr (Nat.add 130 d) 0, .int .i64 0] (Nat.add 131 d) 0)]
def connsO : Nat → List (Nat × LO)
  | 0 => []
  | j + 1 => connO (Nat.mul 151 j) ++ connsO j
def entsO : Nat → List (LV × LV × Nat)
  | 0 => []
  | j + 1 => entsO j ++ [(.int .i64 (.ofNat (Nat.succ j)), .ptr (Nat.add 71 (Nat.mul 151 j)) 0, j)]
def stL (i : Nat) : List (Nat × LO) := (47, .map (entsO i) i) :: (48, .cells [.int .i64 100, .int .i64 2147483647, .int .i64 5, .int .i64 5, .sym .i64 (.var 0), .int .i64 (.ofNat i), .bool false, .map 47] 48 0) :: connsO i
def nxOf (i : Nat) : Nat := match i with | 0 => 49 | j + 1 => Nat.add 199 (Nat.mul 151 j)
noncomputable def sameE : List (LV × LV × Nat) → List (LV × LV × Nat) → Bool
  | [], [] => true
  | (x, v, a) :: r, (y, u, b) :: s => LV.beq x y && LV.beq v u && Nat.beq a b && sameE r s
  | _, _ => false
noncomputable def sameO : LO → LO → Bool
  | .cells a c s, .cells b d t => LV.beqs a b && Nat.beq c d && Nat.beq s t
  | .map a c, .map b d => sameE a b && Nat.beq c d
  | _, _ => false
noncomputable def fitsSt (S : List (Nat × LO)) (n : Nat) (σ : St) : Bool := Nat.beq n σ.nx && S.all fun p => Nat.ble p.1 100000 && (match σ.hp.get p.1 with | some o => sameO p.2 o | none => false)
noncomputable def mkHp (S : List (Nat × LO)) : Tr LO := S.foldr (fun p t => Tr.set t p.1 (some p.2)) .e
noncomputable def mkSt (S : List (Nat × LO)) (n : Nat) : St := ⟨mkHp S, n⟩
def frL (v : LV) (i : Nat) : AS := [(1, v), (5, .ptr 48 0), (6, .int .i64 (.ofNat i)), (7, .int .i64 (.ofNat i))]
def frE (n : Nat) : AS := [(1, .int .i64 (.ofNat n)), (5, .ptr 48 0)]
def F0 : List (BinOp × E × E × Bool) := [(.lss, .var 0, .lit 1, false), (.gtr, .var 0, .lit 3, false), (.lss, .lit 0, .var 0, true)]
def FR (i : Nat) : List (BinOp × E × E × Bool) := (.lss, .lit (.ofNat i), .var 1, true) :: F0
noncomputable def CF (l : List (BinOp × E × E × Bool)) : Cfg := ⟨Tryz.prog, fun f => masks.getD f 0, prims2 F0, l, []⟩
noncomputable def kR (j : Nat) : ExK Unit := fun o fr σ => match o with
  | .normal => cond (fits1 fr (frL (.sym .i64 (.var 1)) j) && fitsSt (stL j) (nxOf j) σ) (some ()) none
  | _ => none
noncomputable def kE (n : Nat) : ExK Unit := fun o fr σ => match o with
  | .exit id => cond (Nat.beq id 0 && fits1 fr (frE n) && fitsSt (stL n) (nxOf n) σ) (some ()) none
  | _ => none
noncomputable def roundR (i : Nat) : Bool := isSm (runH (CF (FR i)) (call (CF (FR i)) 100000 200) (callV (CF (FR i)) 100000 200) 1000 (fun _ _ _ _ => none) (compH Tryz.prog M Tryz.f3.ntmps (fun _ => none) x) (mkFr (frL (.sym .i64 (.var 1)) i)) (mkSt (stL i) (nxOf i)) (kR (Nat.succ i)))
noncomputable def exitE (n : Nat) : Bool := isSm (runH (CF F0) (call (CF F0) 100000 200) (callV (CF F0) 100000 200) 1000 (fun _ _ _ _ => none) (compH Tryz.prog M Tryz.f3.ntmps (fun _ => none) x) (mkFr (frL (.int .i64 (.ofNat n)) n)) (mkSt (stL n) (nxOf n)) (kE n))
noncomputable def hdH (n : Nat) : HK Unit := fun _ fr σ k => cond (fits1 fr (frL (.int .i64 (.ofNat n)) 0) && fitsSt (stL 0) (nxOf 0) σ) (k (.exit 0) (mkFr (frE n)) (mkSt (stL n) (nxOf n))) none
noncomputable def headH (n : Nat) : Bool := isSm (runH (CF F0) (call (CF F0) 100000 200) (callV (CF F0) 100000 200) 1000 (hdH n) (compH Tryz.prog M Tryz.f3.ntmps hL body) (frameOf M .e 0 [.sym .i64 (.var 0), .int .i64 (.ofNat n)]) ⟨.e, 0⟩ (retK (Tryz.f3.results.toList.map (cRes Tryz.prog)) Go.Eng.isTrue))
end Go.Proofs.YthignahfnlgolaaGreatDoor.poolMost
