/- The law PoolTicks returns true for every input. Conditions: none. -/
import Derived.Test.YthignahfnlgolaaPoolTicksRun
import Derived.Test.YthignahfnlgolaaRows
import Derived.WalkKit
import Derived.ProofKit
import Derived.OpenShut
import Derived.ShutString
import Derived.ChangeOld
import Derived.Below
import Derived.SizedLaws
namespace Go.Proofs.Ythignahfnlgolaa.poolTicks
open Go.ChangeShapes Go.WideShapes Go.ChangeAt Go.RowKit Go.Eng
def nOut : List Num := [⟨.sym .i64 (.var 0), lowFacts 0 [1, 3]⟩, ⟨.sym .i64 (.var 0), highFacts 0 [1, 3]⟩]
def lA : List Case := nOut.map fun n => ⟨n.facts, [n.v, .sym .i64 (.var 1), .sym .i64 (.var 2)]⟩
def lB : List Case := [1, 2, 3].flatMap fun n => [⟨lowFacts 1 [1, 10], [.int .i64 n, .sym .i64 (.var 1), .sym .i64 (.var 2)]⟩, ⟨highFacts 1 [1, 10] ++ lowFacts 2 [1, 10], [.int .i64 n, .sym .i64 (.var 1), .sym .i64 (.var 2)]⟩, ⟨highFacts 1 [1, 10] ++ leastFacts 2 1, [.int .i64 n, .sym .i64 (.var 1), .sym .i64 (.var 2)]⟩]
def lC : List Case := [1, 2, 3].flatMap fun n => [1, 2, 3, 4, 5, 6, 7, 8, 9, 10].flatMap fun e => [⟨lowFacts 2 [1, 10], [.int .i64 n, .int .i64 e, .sym .i64 (.var 2)]⟩, ⟨highFacts 2 [1, 10], [.int .i64 n, .int .i64 e, .sym .i64 (.var 2)]⟩]
theorem okA : allCases C2 100000 200 5 ⟨.e, 0⟩ lA = true := by kernel_rfl
theorem okB : allCases C2 100000 200 5 ⟨.e, 0⟩ lB = true := by kernel_rfl
theorem okC : allCases C2 100000 200 5 ⟨.e, 0⟩ lC = true := by kernel_rfl
def three' (a b c : Int) : Nat → Int := fun i => if i = 0 then a else if i = 1 then b else c
def Ok (a b c : Int) (W : World) : Prop := Calls Try.prog 5 #[.int .i64 a, .int .i64 b, .int .i64 c] W fun e W' => e = .returned (.bool true) ∧ Go.RowKit.Below W.heap.size W W'
theorem run_case {a b c : Int} {W : World} {x : Case} (h : okCase2 C2 100000 200 5 ⟨.e, 0⟩ x = true) (hf : Facts (three' a b c) x.facts) (hv : VRs (three' a b c) (fun _ => none) x.args [.int .i64 a, .int .i64 b, .int .i64 c]) : Ok a b c W :=
  okCase2_run (C := C2) mixed hnum rfl h (fun f p hp => prims2_ok f p hp) hf (repE _ W) hv
theorem v0 (a b c : Int) : VR (three' a b c) (fun _ => none) (.sym .i64 (.var 0)) (.int .i64 a) := by simp only [VR]; rfl
theorem v1 (a b c : Int) : VR (three' a b c) (fun _ => none) (.sym .i64 (.var 1)) (.int .i64 b) := by simp only [VR]; rfl
theorem v2 (a b c : Int) : VR (three' a b c) (fun _ => none) (.sym .i64 (.var 2)) (.int .i64 c) := by simp only [VR]; rfl
theorem low1 {i : Nat} {ν : Nat → Int} {p q : Int} (hpq : p ≤ q) (h : ν i < p) : Facts ν (lowFacts i [p, q]) := lowFacts_ok (by
  intro m hm
  simp only [List.mem_cons, List.not_mem_nil, or_false] at hm
  omega)
theorem high1 {i : Nat} {ν : Nat → Int} {p q : Int} (hpq : p ≤ q) (h : q < ν i) : Facts ν (highFacts i [p, q]) := highFacts_ok (by
  intro m hm
  simp only [List.mem_cons, List.not_mem_nil, or_false] at hm
  omega)
theorem outA (a b c : Int) (W : World) (h : a < 1 ∨ 3 < a) : Ok a b c W := by
  rcases h with h | h
  · exact run_case (allCases_mem okA _ (List.mem_map.2 ⟨_, by simp [nOut]; exact .inl rfl, rfl⟩)) (low1 (p := 1) (q := 3) (by omega) h) (VRs_cons (v0 a b c) (VRs_cons (v1 a b c) (VRs_cons (v2 a b c) VRs_nil)))
  · exact run_case (allCases_mem okA _ (List.mem_map.2 ⟨_, by simp [nOut]; exact .inr rfl, rfl⟩)) (high1 (p := 1) (q := 3) (by omega) h) (VRs_cons (v0 a b c) (VRs_cons (v1 a b c) (VRs_cons (v2 a b c) VRs_nil)))
theorem mem3 {a : Int} (h : 1 ≤ a ∧ a ≤ 3) : a ∈ ([1, 2, 3] : List Int) := by simp only [List.mem_cons, List.not_mem_nil, or_false]; omega
theorem mem10 {a : Int} (h : 1 ≤ a ∧ a ≤ 10) : a ∈ ([1, 2, 3, 4, 5, 6, 7, 8, 9, 10] : List Int) := by simp only [List.mem_cons, List.not_mem_nil, or_false]; omega
theorem outB (a b c : Int) (W : World) (ha : 1 ≤ a ∧ a ≤ 3) (h : b < 1 ∨ 10 < b) : Ok a b c W := by
  rcases h with h | h
  · exact run_case (allCases_mem okB _ (List.mem_flatMap.2 ⟨a, mem3 ha, List.mem_cons_self ..⟩)) (low1 (by omega) h) (VRs_cons VR_int (VRs_cons (v1 a b c) (VRs_cons (v2 a b c) VRs_nil)))
  · by_cases hc : c < 1
    · exact run_case (allCases_mem okB _ (List.mem_flatMap.2 ⟨a, mem3 ha, List.mem_cons_of_mem _ (List.mem_cons_self ..)⟩)) ((high1 (by omega) h).append (low1 (by omega) hc)) (VRs_cons VR_int (VRs_cons (v1 a b c) (VRs_cons (v2 a b c) VRs_nil)))
    · exact run_case (allCases_mem okB _ (List.mem_flatMap.2 ⟨a, mem3 ha, List.mem_cons_of_mem _ (List.mem_cons_of_mem _ (List.mem_cons_self ..))⟩)) ((high1 (by omega) h).append (leastFacts_ok (Int.not_lt.1 hc))) (VRs_cons VR_int (VRs_cons (v1 a b c) (VRs_cons (v2 a b c) VRs_nil)))
theorem outC (a b c : Int) (W : World) (ha : 1 ≤ a ∧ a ≤ 3) (hb : 1 ≤ b ∧ b ≤ 10) (h : c < 1 ∨ 10 < c) : Ok a b c W := by
  rcases h with h | h
  · exact run_case (allCases_mem okC _ (List.mem_flatMap.2 ⟨a, mem3 ha, List.mem_flatMap.2 ⟨b, mem10 hb, List.mem_cons_self ..⟩⟩)) (low1 (by omega) h) (VRs_cons VR_int (VRs_cons VR_int (VRs_cons (v2 a b c) VRs_nil)))
  · exact run_case (allCases_mem okC _ (List.mem_flatMap.2 ⟨a, mem3 ha, List.mem_flatMap.2 ⟨b, mem10 hb, List.mem_cons_of_mem _ (List.mem_cons_self ..)⟩⟩)) (high1 (by omega) h) (VRs_cons VR_int (VRs_cons VR_int (VRs_cons (v2 a b c) VRs_nil)))
theorem run (a b c : Int) (W : World) : Ok a b c W := by
  by_cases ha : 1 ≤ a ∧ a ≤ 3
  · by_cases hb : 1 ≤ b ∧ b ≤ 10
    · by_cases hc : 1 ≤ c ∧ c ≤ 10
      · obtain ⟨n, rfl⟩ : ∃ n : Nat, a = n := ⟨a.toNat, by omega⟩
        obtain ⟨e, rfl⟩ : ∃ e : Nat, b = e := ⟨b.toNat, by omega⟩
        obtain ⟨w, rfl⟩ : ∃ w : Nat, c = w := ⟨c.toNat, by omega⟩
        exact inside (by omega) ⟨by omega, by omega⟩ ⟨by omega, by omega⟩
      · exact outC a b c W ha hb (by omega)
    · exact outB a b c W ha (by omega)
  · exact outA a b c W (by omega)
theorem own : ownKnob Try.prog.godebug = none := by kernel_rfl
set_option maxRecDepth 100000 in
theorem lifted (os : Os) (started : os.Started) (H : Type) (enc : TypeId × Value → H) :
    ReturnsInHanded {} Try.checked os 5 .any (Rows.poolTicksSpec.pre6 enc Try.prog Try.f5 Rows.poolTicksRow.domain false) (Rows.poolTicksSpec.post enc Try.prog Try.f5 false true false false) := by
  refine returnsInHanded_of_change_sized (C := Try.checked) own started (by kernel_rfl) Try.func5
    (ChangeSpec.witness6 (enc := enc) (C := Try.checked) false ⟨#[], #[.int .i64 0, .int .i64 0, .int .i64 0], []⟩ 8 (by kernel_rfl) (by kernel_rfl) (by kernel_rfl) (by kernel_rfl)) ?_
  intro W base args ds gs before hval0 hW hcnd hsz0 _
  have hsz : (DataW.weightsEach Try.prog (Try.f5.params.toList ++ Rows.poolTicksSpec.plain.varTypes Try.prog) (ds ++ gs)).all (· ≤ reachBytes) = true := hsz0
  have hval : ∀ (j : Nat) t v, Try.f5.params[j]? = some t → args[j]? = some v → Value.okWide Try.prog W .any base t v := hval0
  have hW' := hW
  obtain ⟨p, q, hA0, hV, rfl, hfz, hnd⟩ := hW
  have hA : DataW.TrodAll enc Try.prog W 0 (fun _ => true) true Try.f5.params.toList args.toList ds p := hA0
  rw [Try.params5] at hA hval hsz
  obtain ⟨v0, vs0, d0, ds0, p0, q0, hargs, rfl, rfl, h0, r0⟩ := trodAll_cons hA
  obtain ⟨v1, vs1, d1, ds1, p1, q1, rfl, rfl, rfl, h1, r1⟩ := trodAll_cons r0
  obtain ⟨v2, vs2, d2, ds2, p2, q2, rfl, rfl, rfl, h2, r2⟩ := trodAll_cons r1
  obtain ⟨rfl, rfl, rfl⟩ := trodAll_nil r2
  obtain rfl : args = #[v0, v1, v2] := by cases args; simp_all
  obtain ⟨rfl, rfl⟩ := trodVars_none hV
  obtain ⟨a0, rfl, rfl, rfl, w0⟩ := open_int Try.underlying3 (hval 0 3 v0 rfl rfl) h0
  obtain ⟨a1, rfl, rfl, rfl, w1⟩ := open_int Try.underlying3 (hval 1 3 v1 rfl rfl) h1
  obtain ⟨a2, rfl, rfl, rfl, w2⟩ := open_int Try.underlying3 (hval 2 3 v2 rfl rfl) h2
  clear hA0 hval0 hsz0 hsz
  refine (show Calls _ _ _ _ _ from run a0 a1 a2 W).mono fun e W' ⟨he, bel⟩ => ?_
  subst he
  exact ⟨_, rfl, _, _, _, [], _, [], hW', trodAll_mk1 (shut_bool Try.underlying4 _), (trodAll_cons_mk (shut_int Try.underlying3 w0) (trodAll_cons_mk (shut_int Try.underlying3 w1) (trodAll_cons_mk (shut_int Try.underlying3 w2) trodAll_mk0))), rfl, bel.frame _, fun h => by cases h⟩
theorem over : Rows.poolTicksRow.holds Try.pinned (OpenSpec.ofChange Rows.poolTicksSpec) :=
  OpenClaim.holds_of_wide 5 Try.f5 rfl rfl rfl rfl rfl rfl rfl ⟨rfl, rfl, rfl, rfl, rfl⟩ rfl rfl rfl rfl rfl (by kernel_rfl) Try.func5 (by kernel_rfl)
    (of_decide_eq_true (by kernel_rfl)) (by unfold Func.isWrapper; first | (rw [if_pos (by decide +kernel)]; kernel_rfl) | (rw [if_neg (by decide +kernel)]; exact ⟨rfl, rfl⟩))
    (fun os started H enc _ => lifted os started H enc)
end Go.Proofs.Ythignahfnlgolaa.poolTicks
namespace Go.Proofs.Ythignahfnlgolaa
/-- The row, under a short name, for the claim. -/
theorem poolTicks_holds : Rows.PoolTicksSaid := poolTicks.over
end Go.Proofs.Ythignahfnlgolaa
#print axioms Go.Proofs.Ythignahfnlgolaa.poolTicks_holds
