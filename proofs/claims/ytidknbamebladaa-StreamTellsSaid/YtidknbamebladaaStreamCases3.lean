/- The cases of the laws of a stream's states that take a state, a kind of frame and a mark, where a state is compared with itself. Conditions: none. -/
import Derived.Test.YtidknbamebladaaStreamCases
namespace Go.Proofs.Ytidknbamebladaa
open Go.Eng
/-- a number is itself -/
def selfFacts (i : Nat) : List (BinOp × E × E × Bool) := [(.eql, .var i, .var i, true), (.neq, .var i, .var i, false)]
theorem selfFacts_ok {ν : Nat → Int} {i : Nat} : Facts ν (selfFacts i) := by
  intro op a b r hm
  simp only [selfFacts, List.mem_cons, List.not_mem_nil, or_false, Prod.mk.injEq] at hm
  rcases hm with ⟨rfl, rfl, rfl, rfl⟩ | ⟨rfl, rfl, rfl, rfl⟩ <;> simp [semC, E.den]
def threeSelf : List Case := states.flatMap fun s => kinds.flatMap fun k => bools.map fun b => ⟨(s.facts ++ selfFacts 0) ++ k.facts, [s.v, k.v, b]⟩
theorem run3s {f : Nat} (h : allOk Try.prog (2 ^ 256 - 1) 1000 50 f threeSelf = true) (a k : Int) (b : Bool) (W : World) :
    Calls Try.prog f #[.int .i64 a, .int .i64 k, .bool b] W fun e W' => e = .returned (.bool true) ∧ Go.RowKit.Below W.heap.size W W' := by
  obtain ⟨s, hs, hv, hf⟩ := states_all (ν := two' a k)
  obtain ⟨q, hq, hv2, hf2⟩ := kinds_all (ν := two' a k)
  have hm : (⟨(s.facts ++ selfFacts 0) ++ q.facts, [s.v, q.v, .bool b]⟩ : Case) ∈ threeSelf := by
    simp only [threeSelf, List.mem_flatMap, List.mem_map]
    exact ⟨s, hs, q, hq, _, bools_all b, rfl⟩
  exact okCase_run hnum (allOk_mem h _ hm) ((hf.append selfFacts_ok).append hf2) (VRs_cons hv (VRs_cons hv2 (VRs_cons VR_bool VRs_nil)))
end Go.Proofs.Ytidknbamebladaa
