/-
  No cell of these rows narrows 'for every input' (looked for: loops, veiled, ifaces, maps, wideKeys, modest, calm, conditions, laid).
  DERIVED. THE GIVEN ROWS OF THIS SEAT. 3 by the template 'for every input the law returns true; each argument reads behind the call as it read before'; 0 by the template 'total and deterministic' (their statements: YthignahfnlgolaaTotals.lean).
  GIVEN WITH THE SEED: the statements are not yours to turn. If you find one false, say at which input.
  Laid BY PROGRAM, IN A SANDBOX (cutbox-rows.mjs): the forced cells as the released guide's own fill.sh prints them over the translation 101023c485fe3259… (all of the seat's roots in one cut). By AI agents, Wed Nov 11 2026. No macro, syntax, notation, axiom, sorry.
-/
import Derived.Test.YthignahfnlgolaaChecked
import GoSem.Claim
import GoSem.ClaimJoined
import GoSem.ClaimMapViews
import Derived.JoinedTies
import Derived.KernelRfl
namespace Go.Proofs.Ythignahfnlgolaa
/- THE CELL 'sum', in the pinned program and in every row, IS THE sha256 OF THE DUMP (.gsa) THAT YthignahfnlgolaaProg.lean LOADS. Nothing in Lean hashes anything: it is a label: what it is worth is what the hold of that sum in a sandbox is worth. -/
noncomputable def Try.pinned : Pinned := { name := "ythignahfnlgolaa", sum := "101023c485fe32598caf0e776ca359bc9f9edfee4280c0547caf4fbf1a69ce90", checked := Try.checked }
namespace Rows
def none {H : Type} : Left H := { results := [], args := [] }

/-- 'bywashlaw23.PoolDials': WHATEVER THE INPUT: true; the input reads as it did. -/
def poolDialsSpec : ChangeSpec := { name := "poolDials", fn := fun _ => fun
  | [d] => { results := [.lit (.bool true)], args := [d] }
  | _ => none }
def poolDialsRow : OpenClaim := { program := "ythignahfnlgolaa", sum := "101023c485fe32598caf0e776ca359bc9f9edfee4280c0547caf4fbf1a69ce90", func := "bywash/bywashlaw23.PoolDials", spec := "poolDials", unfollowed := true, recurses := true, apart := false }
def PoolDialsSaid : Prop := poolDialsRow.holds Try.pinned (OpenSpec.ofChange poolDialsSpec)

/-- ITS FALSE NEIGHBOUR: 'it returns false'. Refute it at one input. -/
def poolDialsWrong : ChangeSpec := { name := "poolDials", fn := fun _ => fun
  | [d] => { results := [.lit (.bool false)], args := [d] }
  | _ => none }
def PoolDialsWrongFalsely : Prop := poolDialsRow.holds Try.pinned (OpenSpec.ofChange poolDialsWrong)

/-- 'bywashlaw23.PoolPicks': WHATEVER THE INPUT: true; the input reads as it did. -/
def poolPicksSpec : ChangeSpec := { name := "poolPicks", fn := fun _ => fun
  | [d1, d2] => { results := [.lit (.bool true)], args := [d1, d2] }
  | _ => none }
def poolPicksRow : OpenClaim := { program := "ythignahfnlgolaa", sum := "101023c485fe32598caf0e776ca359bc9f9edfee4280c0547caf4fbf1a69ce90", func := "bywash/bywashlaw23.PoolPicks", spec := "poolPicks", unfollowed := true, recurses := true, apart := false }
def PoolPicksSaid : Prop := poolPicksRow.holds Try.pinned (OpenSpec.ofChange poolPicksSpec)

/-- ITS FALSE NEIGHBOUR: 'it returns false'. Refute it at one input. -/
def poolPicksWrong : ChangeSpec := { name := "poolPicks", fn := fun _ => fun
  | [d1, d2] => { results := [.lit (.bool false)], args := [d1, d2] }
  | _ => none }
def PoolPicksWrongFalsely : Prop := poolPicksRow.holds Try.pinned (OpenSpec.ofChange poolPicksWrong)

/-- 'bywashlaw23.PoolTicks': WHATEVER THE INPUT: true; the input reads as it did. -/
def poolTicksSpec : ChangeSpec := { name := "poolTicks", fn := fun _ => fun
  | [d1, d2, d3] => { results := [.lit (.bool true)], args := [d1, d2, d3] }
  | _ => none }
def poolTicksRow : OpenClaim := { program := "ythignahfnlgolaa", sum := "101023c485fe32598caf0e776ca359bc9f9edfee4280c0547caf4fbf1a69ce90", func := "bywash/bywashlaw23.PoolTicks", spec := "poolTicks", unfollowed := true, recurses := true, apart := false }
def PoolTicksSaid : Prop := poolTicksRow.holds Try.pinned (OpenSpec.ofChange poolTicksSpec)

/-- ITS FALSE NEIGHBOUR: 'it returns false'. Refute it at one input. -/
def poolTicksWrong : ChangeSpec := { name := "poolTicks", fn := fun _ => fun
  | [d1, d2, d3] => { results := [.lit (.bool false)], args := [d1, d2, d3] }
  | _ => none }
def PoolTicksWrongFalsely : Prop := poolTicksRow.holds Try.pinned (OpenSpec.ofChange poolTicksWrong)

/- THE SECOND FORM. 'bulk': how many values and letters a reading holds, each counted each time it is reached (what is shared counts as often as it is met; a slice's spare places count too). A statement '..UptoSaid' is the law's where the arguments, and the package variables that the reading takes, are together of bulk at most 1048576: NARROWER than '..Said'. Prove '..Said' where nothing that the law and all that it calls make is longer than what came in: it says more and counts as full. Else prove '..UptoSaid'. A law counts once. -/
mutual
def uptoBulk {H : Type} : DataW H → Nat
  | .lit (.string bytes) => bytes.length + 1
  | .lit _ => 1
  | .nil => 1
  | .ptr d => uptoBulk d + 1
  | .slice elems spare => uptoBulkAll elems + uptoBulkAll spare + 1
  | .agg parts => uptoBulkAll parts + 1
  | .iface _ d => uptoBulk d + 1
  | .map entries => uptoBulkEntries entries + 1
  | .held _ => 1
def uptoBulkAll {H : Type} : List (DataW H) → Nat
  | [] => 0
  | d :: r => uptoBulk d + uptoBulkAll r
def uptoBulkEntries {H : Type} : List (Lit × DataW H) → Nat
  | [] => 0
  | x :: r => uptoBulkEntry x + uptoBulkEntries r
def uptoBulkEntry {H : Type} : Lit × DataW H → Nat
  | (.string bytes, d) => bytes.length + uptoBulk d + 1
  | (_, d) => uptoBulk d + 1
 end
def uptoSmall : (H : Type) → List (DataW H) → Bool := fun _ ds => decide (uptoBulkAll ds ≤ 1048576)
def OpenSpec.upto (s : _root_.Go.ChangeSpec) : _root_.Go.OpenSpec := { _root_.Go.OpenSpec.ofChange s with cond := some uptoSmall }

/-- 'bywashlaw23.PoolDials', WHERE WHAT IT READS IS OF BULK AT MOST 1048576: true; the input reads as it did. -/
def poolDialsUptoRow : OpenClaim := { program := "ythignahfnlgolaa", sum := "101023c485fe32598caf0e776ca359bc9f9edfee4280c0547caf4fbf1a69ce90", func := "bywash/bywashlaw23.PoolDials", spec := "poolDials", unfollowed := true, recurses := true, apart := false, narrowed := true }
def PoolDialsUptoSaid : Prop := poolDialsUptoRow.holds Try.pinned (OpenSpec.upto poolDialsSpec)

/-- 'bywashlaw23.PoolPicks', WHERE WHAT IT READS IS OF BULK AT MOST 1048576: true; the input reads as it did. -/
def poolPicksUptoRow : OpenClaim := { program := "ythignahfnlgolaa", sum := "101023c485fe32598caf0e776ca359bc9f9edfee4280c0547caf4fbf1a69ce90", func := "bywash/bywashlaw23.PoolPicks", spec := "poolPicks", unfollowed := true, recurses := true, apart := false, narrowed := true }
def PoolPicksUptoSaid : Prop := poolPicksUptoRow.holds Try.pinned (OpenSpec.upto poolPicksSpec)

/-- 'bywashlaw23.PoolTicks', WHERE WHAT IT READS IS OF BULK AT MOST 1048576: true; the input reads as it did. -/
def poolTicksUptoRow : OpenClaim := { program := "ythignahfnlgolaa", sum := "101023c485fe32598caf0e776ca359bc9f9edfee4280c0547caf4fbf1a69ce90", func := "bywash/bywashlaw23.PoolTicks", spec := "poolTicks", unfollowed := true, recurses := true, apart := false, narrowed := true }
def PoolTicksUptoSaid : Prop := poolTicksUptoRow.holds Try.pinned (OpenSpec.upto poolTicksSpec)

end Rows
end Go.Proofs.Ythignahfnlgolaa
