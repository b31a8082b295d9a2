/- Every case of the laws of a stream's states that take a state, a kind of frame and a mark, or a state and a mark, is answered with true by the symbolic executor. Conditions: none. -/
import Derived.Test.YtidknbamebladaaEngL
import Derived.Test.YtidknbamebladaaRows
import Derived.KernelRfl
namespace Go.Proofs.Ytidknbamebladaa
open Go.Eng
/-- every state, and what is none: less, or more -/
def states : List Num := [.one 0, .one 1, .one 2, .one 3, .one 4, ⟨.sym .i64 (.var 0), lowFacts 0 [0, 1, 2, 3, 4, 5]⟩, ⟨.sym .i64 (.var 0), highFacts 0 [0, 1, 2, 3, 4] ++ leastFacts 0 5⟩]
/-- every kind, and what is none -/
def kinds : List Num := [.one 0, .one 1, .one 2, .one 3, .one 8, ⟨.sym .i64 (.var 1), otherFacts 1 [0, 1, 2, 3, 8]⟩]
def bools : List LV := [.bool true, .bool false]
def three : List Case := states.flatMap fun s => kinds.flatMap fun k => bools.map fun b => ⟨s.facts ++ k.facts, [s.v, k.v, b]⟩
def two : List Case := states.flatMap fun s => bools.map fun b => ⟨s.facts, [s.v, b]⟩
theorem states_all {ν : Nat → Int} : ∃ c ∈ states, c.Fits ν (ν 0) := by
  by_cases h : ν 0 < 0
  · refine ⟨⟨.sym .i64 (.var 0), lowFacts 0 [0, 1, 2, 3, 4, 5]⟩, by simp [states], by simp only [VR]; rfl, lowFacts_ok ?_⟩
    intro m hm
    simp only [List.mem_cons, List.not_mem_nil, or_false] at hm
    omega
  · by_cases h5 : 5 ≤ ν 0
    · refine ⟨⟨.sym .i64 (.var 0), highFacts 0 [0, 1, 2, 3, 4] ++ leastFacts 0 5⟩, by simp [states], by simp only [VR]; rfl, (highFacts_ok ?_).append (leastFacts_ok h5)⟩
      intro m hm
      simp only [List.mem_cons, List.not_mem_nil, or_false] at hm
      omega
    · have : ν 0 = 0 ∨ ν 0 = 1 ∨ ν 0 = 2 ∨ ν 0 = 3 ∨ ν 0 = 4 := by omega
      rcases this with e | e | e | e | e <;> rw [e]
      · exact ⟨.one 0, by simp [states], Num.one_fits 0⟩
      · exact ⟨.one 1, by simp [states], Num.one_fits 1⟩
      · exact ⟨.one 2, by simp [states], Num.one_fits 2⟩
      · exact ⟨.one 3, by simp [states], Num.one_fits 3⟩
      · exact ⟨.one 4, by simp [states], Num.one_fits 4⟩
theorem kinds_all {ν : Nat → Int} : ∃ c ∈ kinds, c.Fits ν (ν 1) := by
  by_cases h : ν 1 = 0 ∨ ν 1 = 1 ∨ ν 1 = 2 ∨ ν 1 = 3 ∨ ν 1 = 8
  · rcases h with e | e | e | e | e <;> rw [e]
    · exact ⟨.one 0, by simp [kinds], Num.one_fits 0⟩
    · exact ⟨.one 1, by simp [kinds], Num.one_fits 1⟩
    · exact ⟨.one 2, by simp [kinds], Num.one_fits 2⟩
    · exact ⟨.one 3, by simp [kinds], Num.one_fits 3⟩
    · exact ⟨.one 8, by simp [kinds], Num.one_fits 8⟩
  · refine ⟨⟨.sym .i64 (.var 1), otherFacts 1 [0, 1, 2, 3, 8]⟩, by simp [kinds], by simp only [VR]; rfl, otherFacts_ok ?_⟩
    intro m hm
    simp only [List.mem_cons, List.not_mem_nil, or_false] at hm
    omega
theorem bools_all (b : Bool) : LV.bool b ∈ bools := by cases b <;> simp [bools]
/-- the two numbers -/
def two' (a b : Int) : Nat → Int := fun i => if i = 0 then a else b
theorem hnum : ∀ (f : Nat) fn, Try.prog.funcs[f]? = some fn → (fn.name == "runtime.NumGoroutine") = false := hnum_of (by kernel_rfl)
theorem run2 {f : Nat} (h : allOk Try.prog (2 ^ 256 - 1) 1000 50 f two = true) (a : Int) (b : Bool) (W : World) :
    Calls Try.prog f #[.int .i64 a, .bool b] W fun e W' => e = .returned (.bool true) ∧ Go.RowKit.Below W.heap.size W W' := by
  obtain ⟨s, hs, hv, hf⟩ := states_all (ν := two' a 0)
  have hm : (⟨s.facts, [s.v, .bool b]⟩ : Case) ∈ two := by
    simp only [two, List.mem_flatMap, List.mem_map]
    exact ⟨s, hs, _, bools_all b, rfl⟩
  exact okCase_run hnum (allOk_mem h _ hm) hf (VRs_cons hv (VRs_cons VR_bool VRs_nil))
theorem run3 {f : Nat} (h : allOk Try.prog (2 ^ 256 - 1) 1000 50 f three = true) (a k : Int) (b : Bool) (W : World) :
    Calls Try.prog f #[.int .i64 a, .int .i64 k, .bool b] W fun e W' => e = .returned (.bool true) ∧ Go.RowKit.Below W.heap.size W W' := by
  obtain ⟨s, hs, hv, hf⟩ := states_all (ν := two' a k)
  obtain ⟨q, hq, hv2, hf2⟩ := kinds_all (ν := two' a k)
  have hm : (⟨s.facts ++ q.facts, [s.v, q.v, .bool b]⟩ : Case) ∈ three := by
    simp only [three, List.mem_flatMap, List.mem_map]
    exact ⟨s, hs, q, hq, _, bools_all b, rfl⟩
  exact okCase_run hnum (allOk_mem h _ hm) (hf.append hf2) (VRs_cons hv (VRs_cons hv2 (VRs_cons VR_bool VRs_nil)))
end Go.Proofs.Ytidknbamebladaa
