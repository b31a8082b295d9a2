/- The states that the law PoolTicks passes through, tick by tick: its times, the tick's number and the ticks since the last answer are symbols. Conditions: none. -/
import Derived.Test.YthignahfnlgolaaCfg
import Derived.Test.YthignahfnlgolaaEngV
namespace Go.Proofs.Ythignahfnlgolaa.poolTicks
open Go.Eng
set_option maxRecDepth 100000
noncomputable def body : Code := match Try.f5.body with | some c => c | none => .skip
def hT (c : Code) : Option Nat := match c with | .loop (.seq (.seq (.region i _ _) _) _) => cond (Nat.beq i 14) (some 0) none | _ => none
noncomputable def x : Code := loopOf (holes hT body)
noncomputable def M : Nat := masks.getD 5 0
theorem body_eq : Try.f5.body = some body := by kernel_rfl
theorem holes_body : holes hT body = [(0, .loop x)] := by kernel_rfl
def sA1 : List (Nat × LO) := [(47, .map [(.int .i64 1, .ptr 70 0, 0)] 1), (48, .cells [.int .i64 100, .int .i64 1, .sym .i64 (.var 0), .sym .i64 (.var 1), .int .i64 3, .int .i64 1, .bool false, .map 47] 48 0), (68, .cells [.sym .i64 (.var 0), .sym .i64 (.var 1), .sym .i64 (.var 3), .int .i64 0, .bool false, .bool false] 68 0), (69, .map [] 0), (70, .cells [.int .i64 100, .int .i64 1, .sym .i64 (.var 0), .sym .i64 (.var 1), .bool true, .str [80, 82, 73, 32, 42, 32, 72, 84, 84, 80, 47, 50, 46, 48, 13, 10, 13, 10, 83, 77, 13, 10, 13, 10, 0, 0, 18, 4, 0, 0, 0, 0, 0, 0, 2, 0, 0, 0, 0, 0, 4, 0, 0, 0, 100, 0, 6, 0, 0, 2, 88], .int .i64 0, .ptr 60 0, .ptr 61 0, .ptr 63 0, .ptr 65 0, .int .i64 128, .int .i64 6, .int .i64 100, .int .i64 64, .int .i64 600, .int .i64 100, .int .i64 100, .int .i64 0, .int .i64 100, .int .i64 100, .int .i64 0, .ptr 67 0, .ptr 68 0, .map 69, .bool false, .bool false, .int .i64 0] 70 0), (96, .cells [.int .i64 1] 96 0)]
def sB1 : List (Nat × LO) := [(47, .map [(.int .i64 1, .ptr 70 0, 0)] 1), (48, .cells [.int .i64 100, .int .i64 1, .sym .i64 (.var 0), .sym .i64 (.var 1), .int .i64 3, .int .i64 1, .bool false, .map 47] 48 0), (68, .cells [.sym .i64 (.var 0), .sym .i64 (.var 1), .sym .i64 (.var 3), .int .i64 1, .bool true, .bool false] 68 0), (69, .map [] 0), (70, .cells [.int .i64 100, .int .i64 1, .sym .i64 (.var 0), .sym .i64 (.var 1), .bool true, .str [80, 82, 73, 32, 42, 32, 72, 84, 84, 80, 47, 50, 46, 48, 13, 10, 13, 10, 83, 77, 13, 10, 13, 10, 0, 0, 18, 4, 0, 0, 0, 0, 0, 0, 2, 0, 0, 0, 0, 0, 4, 0, 0, 0, 100, 0, 6, 0, 0, 2, 88, 0, 0, 8, 6, 0, 0, 0, 0, 0, 0, 0, 0, 0, 0, 0, 0, 1], .int .i64 0, .ptr 60 0, .ptr 61 0, .ptr 63 0, .ptr 65 0, .int .i64 128, .int .i64 6, .int .i64 100, .int .i64 64, .int .i64 600, .int .i64 100, .int .i64 100, .int .i64 0, .int .i64 100, .int .i64 100, .int .i64 0, .ptr 67 0, .ptr 68 0, .map 69, .bool false, .bool false, .int .i64 0] 70 0), (96, .cells [.int .i64 1] 96 0)]
def sl1 : LV := .slice 1 96 0 1 none
def nx1 : Nat := 97
def sA2 : List (Nat × LO) := [(47, .map [(.int .i64 1, .ptr 70 0, 0), (.int .i64 2, .ptr 118 0, 1)] 2), (48, .cells [.int .i64 100, .int .i64 1, .sym .i64 (.var 0), .sym .i64 (.var 1), .int .i64 3, .int .i64 2, .bool false, .map 47] 48 0), (68, .cells [.sym .i64 (.var 0), .sym .i64 (.var 1), .sym .i64 (.var 3), .int .i64 0, .bool false, .bool false] 68 0), (69, .map [] 0), (70, .cells [.int .i64 100, .int .i64 1, .sym .i64 (.var 0), .sym .i64 (.var 1), .bool true, .str [80, 82, 73, 32, 42, 32, 72, 84, 84, 80, 47, 50, 46, 48, 13, 10, 13, 10, 83, 77, 13, 10, 13, 10, 0, 0, 18, 4, 0, 0, 0, 0, 0, 0, 2, 0, 0, 0, 0, 0, 4, 0, 0, 0, 100, 0, 6, 0, 0, 2, 88], .int .i64 0, .ptr 60 0, .ptr 61 0, .ptr 63 0, .ptr 65 0, .int .i64 128, .int .i64 6, .int .i64 100, .int .i64 64, .int .i64 600, .int .i64 100, .int .i64 100, .int .i64 0, .int .i64 100, .int .i64 100, .int .i64 0, .ptr 67 0, .ptr 68 0, .map 69, .bool false, .bool false, .int .i64 0] 70 0), (116, .cells [.sym .i64 (.var 0), .sym .i64 (.var 1), .sym .i64 (.var 3), .int .i64 0, .bool false, .bool false] 116 0), (117, .map [] 0), (118, .cells [.int .i64 100, .int .i64 1, .sym .i64 (.var 0), .sym .i64 (.var 1), .bool true, .str [80, 82, 73, 32, 42, 32, 72, 84, 84, 80, 47, 50, 46, 48, 13, 10, 13, 10, 83, 77, 13, 10, 13, 10, 0, 0, 18, 4, 0, 0, 0, 0, 0, 0, 2, 0, 0, 0, 0, 0, 4, 0, 0, 0, 100, 0, 6, 0, 0, 2, 88], .int .i64 0, .ptr 108 0, .ptr 109 0, .ptr 111 0, .ptr 113 0, .int .i64 128, .int .i64 6, .int .i64 100, .int .i64 64, .int .i64 600, .int .i64 100, .int .i64 100, .int .i64 0, .int .i64 100, .int .i64 100, .int .i64 0, .ptr 115 0, .ptr 116 0, .map 117, .bool false, .bool false, .int .i64 0] 118 0), (144, .cells [.int .i64 1, .int .i64 2] 96 1)]
def sB2 : List (Nat × LO) := [(47, .map [(.int .i64 1, .ptr 70 0, 0), (.int .i64 2, .ptr 118 0, 1)] 2), (48, .cells [.int .i64 100, .int .i64 1, .sym .i64 (.var 0), .sym .i64 (.var 1), .int .i64 3, .int .i64 2, .bool false, .map 47] 48 0), (68, .cells [.sym .i64 (.var 0), .sym .i64 (.var 1), .sym .i64 (.var 3), .int .i64 1, .bool true, .bool false] 68 0), (69, .map [] 0), (70, .cells [.int .i64 100, .int .i64 1, .sym .i64 (.var 0), .sym .i64 (.var 1), .bool true, .str [80, 82, 73, 32, 42, 32, 72, 84, 84, 80, 47, 50, 46, 48, 13, 10, 13, 10, 83, 77, 13, 10, 13, 10, 0, 0, 18, 4, 0, 0, 0, 0, 0, 0, 2, 0, 0, 0, 0, 0, 4, 0, 0, 0, 100, 0, 6, 0, 0, 2, 88, 0, 0, 8, 6, 0, 0, 0, 0, 0, 0, 0, 0, 0, 0, 0, 0, 1], .int .i64 0, .ptr 60 0, .ptr 61 0, .ptr 63 0, .ptr 65 0, .int .i64 128, .int .i64 6, .int .i64 100, .int .i64 64, .int .i64 600, .int .i64 100, .int .i64 100, .int .i64 0, .int .i64 100, .int .i64 100, .int .i64 0, .ptr 67 0, .ptr 68 0, .map 69, .bool false, .bool false, .int .i64 0] 70 0), (116, .cells [.sym .i64 (.var 0), .sym .i64 (.var 1), .sym .i64 (.var 3), .int .i64 1, .bool true, .bool false] 116 0), (117, .map [] 0), (118, .cells [.int .i64 100, .int .i64 1, .sym .i64 (.var 0), .sym .i64 (.var 1), .bool true, .str [80, 82, 73, 32, 42, 32, 72, 84, 84, 80, 47, 50, 46, 48, 13, 10, 13, 10, 83, 77, 13, 10, 13, 10, 0, 0, 18, 4, 0, 0, 0, 0, 0, 0, 2, 0, 0, 0, 0, 0, 4, 0, 0, 0, 100, 0, 6, 0, 0, 2, 88, 0, 0, 8, 6, 0, 0, 0, 0, 0, 0, 0, 0, 0, 0, 0, 0, 1], .int .i64 0, .ptr 108 0, .ptr 109 0, .ptr 111 0, .ptr 113 0, .int .i64 128, .int .i64 6, .int .i64 100, .int .i64 64, .int .i64 600, .int .i64 100, .int .i64 100, .int .i64 0, .int .i64 100, .int .i64 100, .int .i64 0, .ptr 115 0, .ptr 116 0, .map 117, .bool false, .bool false, .int .i64 0] 118 0), (144, .cells [.int .i64 1, .int .i64 2] 96 1)]
def sl2 : LV := .slice 1 144 0 2 none
def nx2 : Nat := 145
def sA3 : List (Nat × LO) := [(47, .map [(.int .i64 1, .ptr 70 0, 0), (.int .i64 2, .ptr 118 0, 1), (.int .i64 3, .ptr 166 0, 2)] 3), (48, .cells [.int .i64 100, .int .i64 1, .sym .i64 (.var 0), .sym .i64 (.var 1), .int .i64 3, .int .i64 3, .bool false, .map 47] 48 0), (68, .cells [.sym .i64 (.var 0), .sym .i64 (.var 1), .sym .i64 (.var 3), .int .i64 0, .bool false, .bool false] 68 0), (69, .map [] 0), (70, .cells [.int .i64 100, .int .i64 1, .sym .i64 (.var 0), .sym .i64 (.var 1), .bool true, .str [80, 82, 73, 32, 42, 32, 72, 84, 84, 80, 47, 50, 46, 48, 13, 10, 13, 10, 83, 77, 13, 10, 13, 10, 0, 0, 18, 4, 0, 0, 0, 0, 0, 0, 2, 0, 0, 0, 0, 0, 4, 0, 0, 0, 100, 0, 6, 0, 0, 2, 88], .int .i64 0, .ptr 60 0, .ptr 61 0, .ptr 63 0, .ptr 65 0, .int .i64 128, .int .i64 6, .int .i64 100, .int .i64 64, .int .i64 600, .int .i64 100, .int .i64 100, .int .i64 0, .int .i64 100, .int .i64 100, .int .i64 0, .ptr 67 0, .ptr 68 0, .map 69, .bool false, .bool false, .int .i64 0] 70 0), (116, .cells [.sym .i64 (.var 0), .sym .i64 (.var 1), .sym .i64 (.var 3), .int .i64 0, .bool false, .bool false] 116 0), (117, .map [] 0), (118, .cells [.int .i64 100, .int .i64 1, .sym .i64 (.var 0), .sym .i64 (.var 1), .bool true, .str [80, 82, 73, 32, 42, 32, 72, 84, 84, 80, 47, 50, 46, 48, 13, 10, 13, 10, 83, 77, 13, 10, 13, 10, 0, 0, 18, 4, 0, 0, 0, 0, 0, 0, 2, 0, 0, 0, 0, 0, 4, 0, 0, 0, 100, 0, 6, 0, 0, 2, 88], .int .i64 0, .ptr 108 0, .ptr 109 0, .ptr 111 0, .ptr 113 0, .int .i64 128, .int .i64 6, .int .i64 100, .int .i64 64, .int .i64 600, .int .i64 100, .int .i64 100, .int .i64 0, .int .i64 100, .int .i64 100, .int .i64 0, .ptr 115 0, .ptr 116 0, .map 117, .bool false, .bool false, .int .i64 0] 118 0), (164, .cells [.sym .i64 (.var 0), .sym .i64 (.var 1), .sym .i64 (.var 3), .int .i64 0, .bool false, .bool false] 164 0), (165, .map [] 0), (166, .cells [.int .i64 100, .int .i64 1, .sym .i64 (.var 0), .sym .i64 (.var 1), .bool true, .str [80, 82, 73, 32, 42, 32, 72, 84, 84, 80, 47, 50, 46, 48, 13, 10, 13, 10, 83, 77, 13, 10, 13, 10, 0, 0, 18, 4, 0, 0, 0, 0, 0, 0, 2, 0, 0, 0, 0, 0, 4, 0, 0, 0, 100, 0, 6, 0, 0, 2, 88], .int .i64 0, .ptr 156 0, .ptr 157 0, .ptr 159 0, .ptr 161 0, .int .i64 128, .int .i64 6, .int .i64 100, .int .i64 64, .int .i64 600, .int .i64 100, .int .i64 100, .int .i64 0, .int .i64 100, .int .i64 100, .int .i64 0, .ptr 163 0, .ptr 164 0, .map 165, .bool false, .bool false, .int .i64 0] 166 0), (192, .cells [.int .i64 1, .int .i64 2, .int .i64 3] 96 1)]
def sB3 : List (Nat × LO) := [(47, .map [(.int .i64 1, .ptr 70 0, 0), (.int .i64 2, .ptr 118 0, 1), (.int .i64 3, .ptr 166 0, 2)] 3), (48, .cells [.int .i64 100, .int .i64 1, .sym .i64 (.var 0), .sym .i64 (.var 1), .int .i64 3, .int .i64 3, .bool false, .map 47] 48 0), (68, .cells [.sym .i64 (.var 0), .sym .i64 (.var 1), .sym .i64 (.var 3), .int .i64 1, .bool true, .bool false] 68 0), (69, .map [] 0), (70, .cells [.int .i64 100, .int .i64 1, .sym .i64 (.var 0), .sym .i64 (.var 1), .bool true, .str [80, 82, 73, 32, 42, 32, 72, 84, 84, 80, 47, 50, 46, 48, 13, 10, 13, 10, 83, 77, 13, 10, 13, 10, 0, 0, 18, 4, 0, 0, 0, 0, 0, 0, 2, 0, 0, 0, 0, 0, 4, 0, 0, 0, 100, 0, 6, 0, 0, 2, 88, 0, 0, 8, 6, 0, 0, 0, 0, 0, 0, 0, 0, 0, 0, 0, 0, 1], .int .i64 0, .ptr 60 0, .ptr 61 0, .ptr 63 0, .ptr 65 0, .int .i64 128, .int .i64 6, .int .i64 100, .int .i64 64, .int .i64 600, .int .i64 100, .int .i64 100, .int .i64 0, .int .i64 100, .int .i64 100, .int .i64 0, .ptr 67 0, .ptr 68 0, .map 69, .bool false, .bool false, .int .i64 0] 70 0), (116, .cells [.sym .i64 (.var 0), .sym .i64 (.var 1), .sym .i64 (.var 3), .int .i64 1, .bool true, .bool false] 116 0), (117, .map [] 0), (118, .cells [.int .i64 100, .int .i64 1, .sym .i64 (.var 0), .sym .i64 (.var 1), .bool true, .str [80, 82, 73, 32, 42, 32, 72, 84, 84, 80, 47, 50, 46, 48, 13, 10, 13, 10, 83, 77, 13, 10, 13, 10, 0, 0, 18, 4, 0, 0, 0, 0, 0, 0, 2, 0, 0, 0, 0, 0, 4, 0, 0, 0, 100, 0, 6, 0, 0, 2, 88, 0, 0, 8, 6, 0, 0, 0, 0, 0, 0, 0, 0, 0, 0, 0, 0, 1], .int .i64 0, .ptr 108 0, .ptr 109 0, .ptr 111 0, .ptr 113 0, .int .i64 128, .int .i64 6, .int .i64 100, .int .i64 64, .int .i64 600, .int .i64 100, .int .i64 100, .int .i64 0, .int .i64 100, .int .i64 100, .int .i64 0, .ptr 115 0, .ptr 116 0, .map 117, .bool false, .bool false, .int .i64 0] 118 0), (164, .cells [.sym .i64 (.var 0), .sym .i64 (.var 1), .sym .i64 (.var 3), .int .i64 1, .bool true, .bool false] 164 0), (165, .map [] 0), (166, .cells [.int .i64 100, .int .i64 1, .sym .i64 (.var 0), .sym .i64 (.var 1), .bool true, .str [80, 82, 73, 32, 42, 32, 72, 84, 84, 80, 47, 50, 46, 48, 13, 10, 13, 10, 83, 77, 13, 10, 13, 10, 0, 0, 18, 4, 0, 0, 0, 0, 0, 0, 2, 0, 0, 0, 0, 0, 4, 0, 0, 0, 100, 0, 6, 0, 0, 2, 88, 0, 0, 8, 6, 0, 0, 0, 0, 0, 0, 0, 0, 0, 0, 0, 0, 1], .int .i64 0, .ptr 156 0, .ptr 157 0, .ptr 159 0, .ptr 161 0, .int .i64 128, .int .i64 6, .int .i64 100, .int .i64 64, .int .i64 600, .int .i64 100, .int .i64 100, .int .i64 0, .int .i64 100, .int .i64 100, .int .i64 0, .ptr 163 0, .ptr 164 0, .map 165, .bool false, .bool false, .int .i64 0] 166 0), (192, .cells [.int .i64 1, .int .i64 2, .int .i64 3] 96 1)]
def sl3 : LV := .slice 1 192 0 3 none
def nx3 : Nat := 193
def sA (n : Nat) : List (Nat × LO) := match n with | 1 => sA1 | 2 => sA2 | _ => sA3
def sB (n : Nat) : List (Nat × LO) := match n with | 1 => sB1 | 2 => sB2 | _ => sB3
def slOf (n : Nat) : LV := match n with | 1 => sl1 | 2 => sl2 | _ => sl3
def nxO (n : Nat) : Nat := match n with | 1 => nx1 | 2 => nx2 | _ => nx3
/-! ## what a state is where its symbols turn -/
def substE (f : Nat → E) : E → E
  | .var i => f i
  | .lit n => .lit n
  | .bin o k a b => .bin o k (substE f a) (substE f b)
  | .conv k a => .conv k (substE f a)
def mkS (k : IntKind) (y : E) : LV := match y with | .lit n => .int k n | y => .sym k y
def substV (f : Nat → E) (v : LV) : LV := match v with | .sym k y => mkS k (substE f y) | v => v
def lowV (m : Nat) (v : LV) : Bool := match v with
  | .ptr b _ => Nat.blt b m
  | .slice _ b _ _ _ => Nat.blt b m
  | .map r => Nat.blt r m
  | .func .. | .iface .. | .agg _ | .tup _ => false
  | _ => true
def substO (f : Nat → E) : LO → LO
  | .cells cs c s => .cells (cs.map (substV f)) c s
  | .map es c => .map (es.map fun e => (substV f e.1, substV f e.2.1, e.2.2)) c
  | o => o
noncomputable def lowO (m : Nat) : LO → Bool
  | .cells cs c _ => cs.all (lowV m) && Nat.blt c m && atoms cs
  | .map es _ => es.all fun e => lowV m e.1 && lowV m e.2.1
  | _ => false
noncomputable def sameE : List (LV × LV × Nat) → List (LV × LV × Nat) → Bool
  | [], [] => true
  | (x, v, a) :: r, (y, u, b) :: s => LV.beq x y && LV.beq v u && Nat.beq a b && sameE r s
  | _, _ => false
noncomputable def sameO : LO → LO → Bool
  | .cells a c s, .cells b d t => LV.beqs a b && Nat.beq c d && Nat.beq s t
  | .map a c, .map b d => sameE a b && Nat.beq c d
  | _, _ => false
noncomputable def fitsRe (f : Nat → E) (S : List (Nat × LO)) (n : Nat) (σ : St) : Bool := Nat.ble n 100000 && S.all fun p => Nat.blt p.1 n && lowO n p.2 && (match σ.hp.get p.1 with | some o => sameO (substO f p.2) o | none => false)
noncomputable def frRe (f : Nat → E) (l : AS) (n : Nat) (fr : Fr) : Bool := l.all fun p => lowV n p.2 && LV.beq (substV f p.2) (getV (fr.get p.1))
noncomputable def mkHp (S : List (Nat × LO)) : Tr LO := S.foldr (fun p t => Tr.set t p.1 (some p.2)) .e
noncomputable def mkSt (S : List (Nat × LO)) (n : Nat) : St := ⟨mkHp S, n⟩
def e31 : E := .bin .add .i64 (.var 3) (.lit 1)
def e21 : E := .bin .add .i64 (.var 2) (.lit 1)
def e01 : E := .bin .add .i64 (.var 0) (.var 1)
def fI (i : Nat) : E := .var i
def fS (i : Nat) : E := match i with | 2 => e21 | 3 => e31 | i => .var i
def fB (i : Nat) : E := match i with | 2 => e21 | 3 => .lit 0 | i => .var i
def fH (i : Nat) : E := match i with | 2 => .lit 1 | 3 => .lit 0 | i => .var i
abbrev FL := List (BinOp × E × E × Bool)
def fAA : FL := [(.lss, .var 2, e01, true), (.lss, e31, .var 0, true)]
def fAB : FL := [(.lss, .var 2, e01, true), (.lss, e31, .var 0, false)]
def fBB : FL := [(.lss, .var 2, e01, true), (.geq, e31, .var 1, false)]
def fX : FL := [(.lss, .var 2, e01, false)]
def fF : FL := [(.lss, .var 0, .lit 1, false), (.gtr, .var 0, .lit 10, false), (.lss, .var 1, .lit 1, false), (.gtr, .var 1, .lit 10, false), (.geq, e31, .var 1, true)]
def frT (n : Nat) : AS := [(1, .sym .i64 (.var 0)), (2, .sym .i64 (.var 1)), (7, .ptr 48 0), (8, slOf n), (10, .sym .i64 (.var 2))]
noncomputable def CF (l : FL) : Cfg := ⟨Try.prog, fun f => masks.getD f 0, prims2, l, []⟩
noncomputable def kT (n : Nat) (f : Nat → E) (S : List (Nat × LO)) : ExK Unit := fun o fr σ => match o with
  | .normal => cond (frRe f (frT n) (nxO n) fr && fitsRe f S (nxO n) σ) (some ()) none
  | _ => none
noncomputable def kX (n : Nat) : ExK Unit := fun o fr σ => match o with
  | .exit id => cond (Nat.beq id 2 && frRe fI (frT n) (nxO n) fr && fitsRe fI (sB n) (nxO n) σ) (some ()) none
  | _ => none
noncomputable def tick (l : FL) (n : Nat) (S : List (Nat × LO)) (k : ExK Unit) : Bool := isSm (runH (CF l) (call (CF l) 100000 200) (callV (CF l) 100000 200) 1000 (fun _ _ _ _ => none) (compH Try.prog M Try.f5.ntmps (fun _ => none) x) (mkFr (frT n)) (mkSt S (nxO n)) k)
noncomputable def hdT (n : Nat) : HK Unit := fun _ fr σ k => cond (Nat.beq (nxO n) σ.nx && frRe fH (frT n) (nxO n) fr && fitsRe fH (sA n) (nxO n) σ) (k (.exit 2) (mkFr (frT n)) (mkSt (sB n) (nxO n))) none
noncomputable def headT (n : Nat) : Bool := isSm (runH (CF fF) (call (CF fF) 100000 200) (callV (CF fF) 100000 200) 1000 (hdT n) (compH Try.prog M Try.f5.ntmps hT body) (frameOf M .e 0 [.int .i64 (.ofNat n), .sym .i64 (.var 0), .sym .i64 (.var 1)]) ⟨.e, 0⟩ (retK (Try.f5.results.toList.map (cRes Try.prog)) Go.Eng.isTrue))
end Go.Proofs.Ythignahfnlgolaa.poolTicks
