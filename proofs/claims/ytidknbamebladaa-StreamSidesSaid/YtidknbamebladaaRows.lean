/-
  No cell of these rows narrows 'for every input' (looked for: loops, veiled, ifaces, maps, wideKeys, modest, calm, conditions, laid).
  DERIVED. THE GIVEN ROWS OF THIS SEAT. 6 by the template 'for every input the law returns true; each argument reads behind the call as it read before'; 0 by the template 'total and deterministic' (their statements: YtidknbamebladaaTotals.lean).
  GIVEN WITH THE SEED: the statements are not yours to turn. If you find one false, say at which input.
  Laid BY PROGRAM, IN A SANDBOX (cutbox-rows.mjs): the forced cells as the released guide's own fill.sh prints them over the translation eb40323f4d54eb2b… (all of the seat's roots in one cut). By AI agents, Wed Nov 11 2026. No macro, syntax, notation, axiom, sorry.
-/
import Derived.Test.YtidknbamebladaaChecked
import GoSem.Claim
import GoSem.ClaimJoined
import GoSem.ClaimMapViews
import Derived.JoinedTies
import Derived.KernelRfl
namespace Go.Proofs.Ytidknbamebladaa
/- THE CELL 'sum', in the pinned program and in every row, IS THE sha256 OF THE DUMP (.gsa) THAT YtidknbamebladaaProg.lean LOADS. Nothing in Lean hashes anything: it is a label: what it is worth is what the hold of that sum in a sandbox is worth. -/
noncomputable def Try.pinned : Pinned := { name := "ytidknbamebladaa", sum := "eb40323f4d54eb2b992beacfdbed7f596e0da75e4f19d8dd6e570df46cdde564", checked := Try.checked }
namespace Rows
def none {H : Type} : Left H := { results := [], args := [] }

/-- 'bywashlaw14.StreamTells': WHATEVER THE INPUT: true; the input reads as it did. -/
def streamTellsSpec : ChangeSpec := { name := "streamTells", fn := fun _ => fun
  | [d1, d2, d3] => { results := [.lit (.bool true)], args := [d1, d2, d3] }
  | _ => none }
def streamTellsRow : OpenClaim := { program := "ytidknbamebladaa", sum := "eb40323f4d54eb2b992beacfdbed7f596e0da75e4f19d8dd6e570df46cdde564", func := "bywash/bywashlaw14.StreamTells", spec := "streamTells", apart := false }
def StreamTellsSaid : Prop := streamTellsRow.holds Try.pinned (OpenSpec.ofChange streamTellsSpec)

/-- ITS FALSE NEIGHBOUR: 'it returns false'. Refute it at one input. -/
def streamTellsWrong : ChangeSpec := { name := "streamTells", fn := fun _ => fun
  | [d1, d2, d3] => { results := [.lit (.bool false)], args := [d1, d2, d3] }
  | _ => none }
def StreamTellsWrongFalsely : Prop := streamTellsRow.holds Try.pinned (OpenSpec.ofChange streamTellsWrong)

/-- 'bywashlaw14.StreamRuns': WHATEVER THE INPUT: true; the input reads as it did. -/
def streamRunsSpec : ChangeSpec := { name := "streamRuns", fn := fun _ => fun
  | [d] => { results := [.lit (.bool true)], args := [d] }
  | _ => none }
def streamRunsRow : OpenClaim := { program := "ytidknbamebladaa", sum := "eb40323f4d54eb2b992beacfdbed7f596e0da75e4f19d8dd6e570df46cdde564", func := "bywash/bywashlaw14.StreamRuns", spec := "streamRuns", apart := false }
def StreamRunsSaid : Prop := streamRunsRow.holds Try.pinned (OpenSpec.ofChange streamRunsSpec)

/-- ITS FALSE NEIGHBOUR: 'it returns false'. Refute it at one input. -/
def streamRunsWrong : ChangeSpec := { name := "streamRuns", fn := fun _ => fun
  | [d] => { results := [.lit (.bool false)], args := [d] }
  | _ => none }
def StreamRunsWrongFalsely : Prop := streamRunsRow.holds Try.pinned (OpenSpec.ofChange streamRunsWrong)

/-- 'bywashlaw14.StreamSides': WHATEVER THE INPUT: true; the input reads as it did. -/
def streamSidesSpec : ChangeSpec := { name := "streamSides", fn := fun _ => fun
  | [d] => { results := [.lit (.bool true)], args := [d] }
  | _ => none }
def streamSidesRow : OpenClaim := { program := "ytidknbamebladaa", sum := "eb40323f4d54eb2b992beacfdbed7f596e0da75e4f19d8dd6e570df46cdde564", func := "bywash/bywashlaw14.StreamSides", spec := "streamSides", apart := false }
def StreamSidesSaid : Prop := streamSidesRow.holds Try.pinned (OpenSpec.ofChange streamSidesSpec)

/-- ITS FALSE NEIGHBOUR: 'it returns false'. Refute it at one input. -/
def streamSidesWrong : ChangeSpec := { name := "streamSides", fn := fun _ => fun
  | [d] => { results := [.lit (.bool false)], args := [d] }
  | _ => none }
def StreamSidesWrongFalsely : Prop := streamSidesRow.holds Try.pinned (OpenSpec.ofChange streamSidesWrong)

/-- 'bywashlaw14.StreamErrors': WHATEVER THE INPUT: true; the input reads as it did. -/
def streamErrorsSpec : ChangeSpec := { name := "streamErrors", fn := fun _ => fun
  | [d1, d2, d3] => { results := [.lit (.bool true)], args := [d1, d2, d3] }
  | _ => none }
def streamErrorsRow : OpenClaim := { program := "ytidknbamebladaa", sum := "eb40323f4d54eb2b992beacfdbed7f596e0da75e4f19d8dd6e570df46cdde564", func := "bywash/bywashlaw14.StreamErrors", spec := "streamErrors", apart := false }
def StreamErrorsSaid : Prop := streamErrorsRow.holds Try.pinned (OpenSpec.ofChange streamErrorsSpec)

/-- ITS FALSE NEIGHBOUR: 'it returns false'. Refute it at one input. -/
def streamErrorsWrong : ChangeSpec := { name := "streamErrors", fn := fun _ => fun
  | [d1, d2, d3] => { results := [.lit (.bool false)], args := [d1, d2, d3] }
  | _ => none }
def StreamErrorsWrongFalsely : Prop := streamErrorsRow.holds Try.pinned (OpenSpec.ofChange streamErrorsWrong)

/-- 'bywashlaw14.StreamResets': WHATEVER THE INPUT: true; the input reads as it did. -/
def streamResetsSpec : ChangeSpec := { name := "streamResets", fn := fun _ => fun
  | [d1, d2] => { results := [.lit (.bool true)], args := [d1, d2] }
  | _ => none }
def streamResetsRow : OpenClaim := { program := "ytidknbamebladaa", sum := "eb40323f4d54eb2b992beacfdbed7f596e0da75e4f19d8dd6e570df46cdde564", func := "bywash/bywashlaw14.StreamResets", spec := "streamResets", apart := false }
def StreamResetsSaid : Prop := streamResetsRow.holds Try.pinned (OpenSpec.ofChange streamResetsSpec)

/-- ITS FALSE NEIGHBOUR: 'it returns false'. Refute it at one input. -/
def streamResetsWrong : ChangeSpec := { name := "streamResets", fn := fun _ => fun
  | [d1, d2] => { results := [.lit (.bool false)], args := [d1, d2] }
  | _ => none }
def StreamResetsWrongFalsely : Prop := streamResetsRow.holds Try.pinned (OpenSpec.ofChange streamResetsWrong)

/-- 'bywashlaw14.StreamReads': WHATEVER THE INPUT: true; the input reads as it did. -/
def streamReadsSpec : ChangeSpec := { name := "streamReads", fn := fun _ => fun
  | [d1, d2] => { results := [.lit (.bool true)], args := [d1, d2] }
  | _ => none }
def streamReadsRow : OpenClaim := { program := "ytidknbamebladaa", sum := "eb40323f4d54eb2b992beacfdbed7f596e0da75e4f19d8dd6e570df46cdde564", func := "bywash/bywashlaw14.StreamReads", spec := "streamReads", apart := false }
def StreamReadsSaid : Prop := streamReadsRow.holds Try.pinned (OpenSpec.ofChange streamReadsSpec)

/-- ITS FALSE NEIGHBOUR: 'it returns false'. Refute it at one input. -/
def streamReadsWrong : ChangeSpec := { name := "streamReads", fn := fun _ => fun
  | [d1, d2] => { results := [.lit (.bool false)], args := [d1, d2] }
  | _ => none }
def StreamReadsWrongFalsely : Prop := streamReadsRow.holds Try.pinned (OpenSpec.ofChange streamReadsWrong)

/- THE SECOND FORM. 'bulk': how many values and letters a reading holds, each counted each time it is reached (what is shared counts as often as it is met; a slice's spare places count too). A statement '..UptoSaid' is the law's where the arguments, and the package variables that the reading takes, are together of bulk at most 1048576: NARROWER than '..Said'. Prove '..Said' where nothing that the law and all that it calls make is longer than what came in: it says more and counts as full. Else prove '..UptoSaid'. A law counts once. -/
mutual
def uptoBulk {H : Type} : DataW H → Nat
  | .lit (.string bytes) => bytes.length + 1
  | .lit _ => 1
  | .nil => 1
  | .ptr d => uptoBulk d + 1
  | .slice elems spare => uptoBulkAll elems + uptoBulkAll spare + 1
  | .agg parts => uptoBulkAll parts + 1
  | .iface _ d => uptoBulk d + 1
  | .map entries => uptoBulkEntries entries + 1
  | .held _ => 1
def uptoBulkAll {H : Type} : List (DataW H) → Nat
  | [] => 0
  | d :: r => uptoBulk d + uptoBulkAll r
def uptoBulkEntries {H : Type} : List (Lit × DataW H) → Nat
  | [] => 0
  | x :: r => uptoBulkEntry x + uptoBulkEntries r
def uptoBulkEntry {H : Type} : Lit × DataW H → Nat
  | (.string bytes, d) => bytes.length + uptoBulk d + 1
  | (_, d) => uptoBulk d + 1
 end
def uptoSmall : (H : Type) → List (DataW H) → Bool := fun _ ds => decide (uptoBulkAll ds ≤ 1048576)
def OpenSpec.upto (s : _root_.Go.ChangeSpec) : _root_.Go.OpenSpec := { _root_.Go.OpenSpec.ofChange s with cond := some uptoSmall }

/-- 'bywashlaw14.StreamTells', WHERE WHAT IT READS IS OF BULK AT MOST 1048576: true; the input reads as it did. -/
def streamTellsUptoRow : OpenClaim := { program := "ytidknbamebladaa", sum := "eb40323f4d54eb2b992beacfdbed7f596e0da75e4f19d8dd6e570df46cdde564", func := "bywash/bywashlaw14.StreamTells", spec := "streamTells", apart := false, narrowed := true }
def StreamTellsUptoSaid : Prop := streamTellsUptoRow.holds Try.pinned (OpenSpec.upto streamTellsSpec)

/-- 'bywashlaw14.StreamRuns', WHERE WHAT IT READS IS OF BULK AT MOST 1048576: true; the input reads as it did. -/
def streamRunsUptoRow : OpenClaim := { program := "ytidknbamebladaa", sum := "eb40323f4d54eb2b992beacfdbed7f596e0da75e4f19d8dd6e570df46cdde564", func := "bywash/bywashlaw14.StreamRuns", spec := "streamRuns", apart := false, narrowed := true }
def StreamRunsUptoSaid : Prop := streamRunsUptoRow.holds Try.pinned (OpenSpec.upto streamRunsSpec)

/-- 'bywashlaw14.StreamSides', WHERE WHAT IT READS IS OF BULK AT MOST 1048576: true; the input reads as it did. -/
def streamSidesUptoRow : OpenClaim := { program := "ytidknbamebladaa", sum := "eb40323f4d54eb2b992beacfdbed7f596e0da75e4f19d8dd6e570df46cdde564", func := "bywash/bywashlaw14.StreamSides", spec := "streamSides", apart := false, narrowed := true }
def StreamSidesUptoSaid : Prop := streamSidesUptoRow.holds Try.pinned (OpenSpec.upto streamSidesSpec)

/-- 'bywashlaw14.StreamErrors', WHERE WHAT IT READS IS OF BULK AT MOST 1048576: true; the input reads as it did. -/
def streamErrorsUptoRow : OpenClaim := { program := "ytidknbamebladaa", sum := "eb40323f4d54eb2b992beacfdbed7f596e0da75e4f19d8dd6e570df46cdde564", func := "bywash/bywashlaw14.StreamErrors", spec := "streamErrors", apart := false, narrowed := true }
def StreamErrorsUptoSaid : Prop := streamErrorsUptoRow.holds Try.pinned (OpenSpec.upto streamErrorsSpec)

/-- 'bywashlaw14.StreamResets', WHERE WHAT IT READS IS OF BULK AT MOST 1048576: true; the input reads as it did. -/
def streamResetsUptoRow : OpenClaim := { program := "ytidknbamebladaa", sum := "eb40323f4d54eb2b992beacfdbed7f596e0da75e4f19d8dd6e570df46cdde564", func := "bywash/bywashlaw14.StreamResets", spec := "streamResets", apart := false, narrowed := true }
def StreamResetsUptoSaid : Prop := streamResetsUptoRow.holds Try.pinned (OpenSpec.upto streamResetsSpec)

/-- 'bywashlaw14.StreamReads', WHERE WHAT IT READS IS OF BULK AT MOST 1048576: true; the input reads as it did. -/
def streamReadsUptoRow : OpenClaim := { program := "ytidknbamebladaa", sum := "eb40323f4d54eb2b992beacfdbed7f596e0da75e4f19d8dd6e570df46cdde564", func := "bywash/bywashlaw14.StreamReads", spec := "streamReads", apart := false, narrowed := true }
def StreamReadsUptoSaid : Prop := streamReadsUptoRow.holds Try.pinned (OpenSpec.upto streamReadsSpec)

end Rows
end Go.Proofs.Ytidknbamebladaa
