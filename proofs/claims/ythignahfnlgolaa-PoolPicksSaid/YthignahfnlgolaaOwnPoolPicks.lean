/- The law PoolPicks returns true for every input, and leaves its arguments as they were. Conditions: none. -/
import Derived.Test.YthignahfnlgolaaPoolPicksC0
import Derived.Test.YthignahfnlgolaaPoolPicksC1
import Derived.Test.YthignahfnlgolaaPoolPicksC2
import Derived.Test.YthignahfnlgolaaPoolPicksC3
import Derived.Test.YthignahfnlgolaaRows
import Derived.WalkKit
import Derived.ProofKit
import Derived.OpenShut
import Derived.ShutString
import Derived.ChangeOld
import Derived.Below
import Derived.SizedLaws
namespace Go.Proofs.Ythignahfnlgolaa.poolPicks
open Go.ChangeShapes Go.WideShapes Go.ChangeAt Go.RowKit Go.Eng
def nOut : List Num := [⟨.sym .i64 (.var 0), lowFacts 0 [1, 3]⟩, ⟨.sym .i64 (.var 0), highFacts 0 [1, 3]⟩]
def lA : List Case := nOut.map fun n => ⟨n.facts, [n.v, .bad]⟩
theorem okA : allCases C2 100000 200 4 ⟨.e, 0⟩ lA = true := by kernel_rfl
theorem okNil : allCases C2 100000 200 4 ⟨.e, 0⟩ [⟨[], [.int .i64 1, .nilslice]⟩, ⟨[], [.int .i64 2, .nilslice]⟩, ⟨[], [.int .i64 3, .nilslice]⟩] = true := by kernel_rfl
theorem okZero : allCases C2 100000 200 4 ⟨.e, 1⟩ [⟨[], [.int .i64 1, slN 0]⟩, ⟨[], [.int .i64 2, slN 0]⟩, ⟨[], [.int .i64 3, slN 0]⟩] = true := by kernel_rfl
theorem okLong (m : Nat) : allCases C2 100000 200 4 ⟨.e, 1⟩ [⟨[], [.int .i64 1, slN (m + 4)]⟩, ⟨[], [.int .i64 2, slN (m + 4)]⟩, ⟨[], [.int .i64 3, slN (m + 4)]⟩] = true := by kernel_rfl
def Ok (a : Int) (v : Value) (W : World) : Prop := Calls Try.prog 4 #[.int .i64 a, v] W fun e W' => e = .returned (.bool true) ∧ Go.RowKit.Below W.heap.size W W'
theorem low1 {i : Nat} {ν : Nat → Int} {p q : Int} (hpq : p ≤ q) (h : ν i < p) : Facts ν (lowFacts i [p, q]) := lowFacts_ok (by
  intro m hm
  simp only [List.mem_cons, List.not_mem_nil, or_false] at hm
  omega)
theorem high1 {i : Nat} {ν : Nat → Int} {p q : Int} (hpq : p ≤ q) (h : q < ν i) : Facts ν (highFacts i [p, q]) := highFacts_ok (by
  intro m hm
  simp only [List.mem_cons, List.not_mem_nil, or_false] at hm
  omega)
theorem outA (a : Int) (v : Value) (W : World) (h : a < 1 ∨ 3 < a) : Ok a v W := by
  rcases h with h | h
  · exact okCase2_run (C := C2) (ν := fun _ => a) mixed hnum rfl (allCases_mem okA _ (List.mem_map.2 ⟨_, by simp [nOut]; exact .inl rfl, rfl⟩)) (fun f p hp => prims2_ok f p hp) (low1 (p := 1) (q := 3) (by omega) h) (repE _ W) (VRs_cons (by simp only [VR]; rfl) (VRs_cons (by simp only [VR]) VRs_nil))
  · exact okCase2_run (C := C2) (ν := fun _ => a) mixed hnum rfl (allCases_mem okA _ (List.mem_map.2 ⟨_, by simp [nOut]; exact .inr rfl, rfl⟩)) (fun f p hp => prims2_ok f p hp) (high1 (p := 1) (q := 3) (by omega) h) (repE _ W) (VRs_cons (by simp only [VR]; rfl) (VRs_cons (by simp only [VR]) VRs_nil))
theorem three {σ : St} {x : LV} (h : allCases C2 100000 200 4 σ [⟨[], [.int .i64 1, x]⟩, ⟨[], [.int .i64 2, x]⟩, ⟨[], [.int .i64 3, x]⟩] = true) {a : Int} (ha : 1 ≤ a ∧ a ≤ 3) {v : Value} {W : World} {ι : Inj} (H : Rep (fun _ => 0) W.heap.size W σ ι W) (hv : VR (fun _ => 0) ι x v) : Ok a v W := by
  have : a = 1 ∨ a = 2 ∨ a = 3 := by omega
  rcases this with rfl | rfl | rfl
  · exact okCase2_run (C := C2) mixed hnum rfl (allCases_mem h _ (List.mem_cons_self ..)) (fun f p hp => prims2_ok f p hp) Facts.nil H (VRs_cons VR_int (VRs_cons hv VRs_nil))
  · exact okCase2_run (C := C2) mixed hnum rfl (allCases_mem h _ (List.mem_cons_of_mem _ (List.mem_cons_self ..))) (fun f p hp => prims2_ok f p hp) Facts.nil H (VRs_cons VR_int (VRs_cons hv VRs_nil))
  · exact okCase2_run (C := C2) mixed hnum rfl (allCases_mem h _ (List.mem_cons_of_mem _ (List.mem_cons_of_mem _ (List.mem_cons_self ..)))) (fun f p hp => prims2_ok f p hp) Facts.nil H (VRs_cons VR_int (VRs_cons hv VRs_nil))
theorem one {σ : St} {x : LV} {a : Int} (h : okCase2 C2 100000 200 4 σ ⟨[], [.int .i64 a, x]⟩ = true) {v : Value} {W : World} {ι : Inj} (H : Rep (fun _ => 0) W.heap.size W σ ι W) (hv : VR (fun _ => 0) ι x v) : Ok a v W :=
  okCase2_run (C := C2) mixed hnum rfl h (fun f p hp => prims2_ok f p hp) Facts.nil H (VRs_cons VR_int (VRs_cons hv VRs_nil))
theorem in1x1 (l : List Bool) (hl : l.length = 1) : okCase2 C2 100000 200 4 (stB l) ⟨[], [.int .i64 1, slN 1]⟩ = true := by
  obtain ⟨a, rfl⟩ : ∃ a, l = [a] := by
    match l, hl with
    | [a], _ => exact ⟨a, rfl⟩
  cases a
  · exact ok1x1x1
  · exact ok1x1x0
theorem in2x1 (l : List Bool) (hl : l.length = 1) : okCase2 C2 100000 200 4 (stB l) ⟨[], [.int .i64 2, slN 1]⟩ = true := by
  obtain ⟨a, rfl⟩ : ∃ a, l = [a] := by
    match l, hl with
    | [a], _ => exact ⟨a, rfl⟩
  cases a
  · exact ok2x1x1
  · exact ok2x1x0
theorem in3x1 (l : List Bool) (hl : l.length = 1) : okCase2 C2 100000 200 4 (stB l) ⟨[], [.int .i64 3, slN 1]⟩ = true := by
  obtain ⟨a, rfl⟩ : ∃ a, l = [a] := by
    match l, hl with
    | [a], _ => exact ⟨a, rfl⟩
  cases a
  · exact ok3x1x1
  · exact ok3x1x0
theorem in1x2 (l : List Bool) (hl : l.length = 2) : okCase2 C2 100000 200 4 (stB l) ⟨[], [.int .i64 1, slN 2]⟩ = true := by
  obtain ⟨a, b, rfl⟩ : ∃ a b, l = [a, b] := by
    match l, hl with
    | [a, b], _ => exact ⟨a, b, rfl⟩
  cases a <;> cases b
  · exact ok1x2x3
  · exact ok1x2x2
  · exact ok1x2x1
  · exact ok1x2x0
theorem in2x2 (l : List Bool) (hl : l.length = 2) : okCase2 C2 100000 200 4 (stB l) ⟨[], [.int .i64 2, slN 2]⟩ = true := by
  obtain ⟨a, b, rfl⟩ : ∃ a b, l = [a, b] := by
    match l, hl with
    | [a, b], _ => exact ⟨a, b, rfl⟩
  cases a <;> cases b
  · exact ok2x2x3
  · exact ok2x2x2
  · exact ok2x2x1
  · exact ok2x2x0
theorem in3x2 (l : List Bool) (hl : l.length = 2) : okCase2 C2 100000 200 4 (stB l) ⟨[], [.int .i64 3, slN 2]⟩ = true := by
  obtain ⟨a, b, rfl⟩ : ∃ a b, l = [a, b] := by
    match l, hl with
    | [a, b], _ => exact ⟨a, b, rfl⟩
  cases a <;> cases b
  · exact ok3x2x3
  · exact ok3x2x2
  · exact ok3x2x1
  · exact ok3x2x0
theorem in1x3 (l : List Bool) (hl : l.length = 3) : okCase2 C2 100000 200 4 (stB l) ⟨[], [.int .i64 1, slN 3]⟩ = true := by
  obtain ⟨a, b, c, rfl⟩ : ∃ a b c, l = [a, b, c] := by
    match l, hl with
    | [a, b, c], _ => exact ⟨a, b, c, rfl⟩
  cases a <;> cases b <;> cases c
  · exact ok1x3x7
  · exact ok1x3x6
  · exact ok1x3x5
  · exact ok1x3x4
  · exact ok1x3x3
  · exact ok1x3x2
  · exact ok1x3x1
  · exact ok1x3x0
theorem in2x3 (l : List Bool) (hl : l.length = 3) : okCase2 C2 100000 200 4 (stB l) ⟨[], [.int .i64 2, slN 3]⟩ = true := by
  obtain ⟨a, b, c, rfl⟩ : ∃ a b c, l = [a, b, c] := by
    match l, hl with
    | [a, b, c], _ => exact ⟨a, b, c, rfl⟩
  cases a <;> cases b <;> cases c
  · exact ok2x3x7
  · exact ok2x3x6
  · exact ok2x3x5
  · exact ok2x3x4
  · exact ok2x3x3
  · exact ok2x3x2
  · exact ok2x3x1
  · exact ok2x3x0
theorem in3x3 (l : List Bool) (hl : l.length = 3) : okCase2 C2 100000 200 4 (stB l) ⟨[], [.int .i64 3, slN 3]⟩ = true := by
  obtain ⟨a, b, c, rfl⟩ : ∃ a b c, l = [a, b, c] := by
    match l, hl with
    | [a, b, c], _ => exact ⟨a, b, c, rfl⟩
  cases a <;> cases b <;> cases c
  · exact ok3x3x7
  · exact ok3x3x6
  · exact ok3x3x5
  · exact ok3x3x4
  · exact ok3x3x3
  · exact ok3x3x2
  · exact ok3x3x1
  · exact ok3x3x0
theorem run (a : Int) (W : World) (v : Value) (n : Nat) (bs : List Bool) (blk off : Nat) (hv : HeldB W v n bs blk off) : Ok a v W := by
  by_cases ha : 1 ≤ a ∧ a ≤ 3
  · obtain ⟨B, b1, b2, b3, b4⟩ := hv.plain (fun _ => 0)
    have R1 := rep0 (Below.refl W.heap.size W) (Nat.le_refl _) b3 (fun _ => 0)
    have V1 := b4 (inj0 B) (by simp [inj0])
    have hbl : n ≤ bs.length := by obtain ⟨C, _, h1, _, h3, _⟩ := hv; omega
    match n, hv, V1, hbl with
    | 0, _, V1, _ => exact three okZero ha R1 V1
    | 1, hv, _, hbl =>
      obtain ⟨ι, H, hx⟩ := hv.known (by omega) (fun _ => 0)
      have : a = 1 ∨ a = 2 ∨ a = 3 := by omega
      rcases this with rfl | rfl | rfl
      · exact one (in1x1 _ (by simp; omega)) H hx
      · exact one (in2x1 _ (by simp; omega)) H hx
      · exact one (in3x1 _ (by simp; omega)) H hx
    | 2, hv, _, hbl =>
      obtain ⟨ι, H, hx⟩ := hv.known (by omega) (fun _ => 0)
      have : a = 1 ∨ a = 2 ∨ a = 3 := by omega
      rcases this with rfl | rfl | rfl
      · exact one (in1x2 _ (by simp; omega)) H hx
      · exact one (in2x2 _ (by simp; omega)) H hx
      · exact one (in3x2 _ (by simp; omega)) H hx
    | 3, hv, _, hbl =>
      obtain ⟨ι, H, hx⟩ := hv.known (by omega) (fun _ => 0)
      have : a = 1 ∨ a = 2 ∨ a = 3 := by omega
      rcases this with rfl | rfl | rfl
      · exact one (in1x3 _ (by simp; omega)) H hx
      · exact one (in2x3 _ (by simp; omega)) H hx
      · exact one (in3x3 _ (by simp; omega)) H hx
    | m + 4, _, V1, _ => exact three (okLong m) ha R1 V1
  · exact outA a v W (by omega)
theorem laidOut : laidOutB Try.prog = true := by kernel_rfl
theorem cells4 : Try.prog.cellsOf 4 = 1 := by kernel_rfl
theorem own : ownKnob Try.prog.godebug = none := by kernel_rfl
set_option maxRecDepth 100000 in
theorem lifted (os : Os) (started : os.Started) (H : Type) (enc : TypeId × Value → H) :
    ReturnsInHanded {} Try.checked os 4 .any (Rows.poolPicksSpec.pre6 enc Try.prog Try.f4 Rows.poolPicksRow.domain false) (Rows.poolPicksSpec.post enc Try.prog Try.f4 false true false false) := by
  refine returnsInHanded_of_change_sized (C := Try.checked) own started (by kernel_rfl) Try.func4
    (ChangeSpec.witness6 (enc := enc) (C := Try.checked) false ⟨#[], #[.int .i64 0, .slice none 0 0], []⟩ 8 (by kernel_rfl) (by kernel_rfl) (by kernel_rfl) (by kernel_rfl)) ?_
  intro W base args ds gs before hval0 hW hcnd hsz0 _
  have hsz : (DataW.weightsEach Try.prog (Try.f4.params.toList ++ Rows.poolPicksSpec.plain.varTypes Try.prog) (ds ++ gs)).all (· ≤ reachBytes) = true := hsz0
  have hval : ∀ (j : Nat) t v, Try.f4.params[j]? = some t → args[j]? = some v → Value.okWide Try.prog W .any base t v := hval0
  have hW' := hW
  obtain ⟨p, q, hA0, hV, rfl, hfz, hnd⟩ := hW
  have hA : DataW.TrodAll enc Try.prog W 0 (fun _ => true) true Try.f4.params.toList args.toList ds p := hA0
  rw [Try.params4] at hA hval hsz
  obtain ⟨v0, vs0, d0, ds0, p0, q0, hargs, rfl, rfl, h0, r0⟩ := trodAll_cons hA
  obtain ⟨v1, vs1, d1, ds1, p1, q1, rfl, rfl, rfl, h1, r1⟩ := trodAll_cons r0
  obtain ⟨rfl, rfl, rfl⟩ := trodAll_nil r1
  obtain rfl : args = #[v0, v1] := by cases args; simp_all
  obtain ⟨rfl, rfl⟩ := trodVars_none hV
  obtain ⟨a0, rfl, rfl, rfl, w0⟩ := open_int Try.underlying3 (hval 0 3 v0 rfl rfl) h0
  have hok := hval 1 22 v1 rfl rfl
  have hlt : ∀ x ∈ p1, x.block < W.heap.size := fun x hx => hW'.lt x (by simp [hx])
  have fin : ∀ W', Go.RowKit.Below W.heap.size W W' → DataW.Trod enc Try.prog W' 0 (fun b => decide (b < W.heap.size)) true 22 v1 d1 p1 := fun W' hb => Below.trod laidOut (by kernel_rfl) (of_decide_eq_true (by kernel_rfl)) h1 hb hlt
  have main : Ok a0 v1 W := by
    clear fin
    obtain ⟨b0, len0, cap0, rfl⟩ := okWide_slice Try.underlying22 hok
    obtain ⟨fuel, hf⟩ := h1
    rcases open_bools Try.underlying22 Try.underlying4 cells4 hf with hcs | ⟨a, len, cap, zs, hcs, hle, hall, hcell⟩
    · simp [Value.cells] at hcs
      obtain ⟨rfl, rfl, rfl⟩ := hcs
      by_cases ha : 1 ≤ a0 ∧ a0 ≤ 3
      · exact three okNil ha (repE _ W) (by simp only [VR])
      · exact outA a0 _ W (by omega)
    · simp [Value.cells] at hcs
      obtain ⟨rfl, rfl, rfl⟩ := hcs
      have hsp : a.spot = none ∧ a.block < W.heap.size := by
        simp only [Value.okWide, Try.underlying22, Cell.okWide, Cell.ok, World.has] at hok
        obtain ⟨_, _, _, h1, row, cells, h2, _⟩ := hok
        refine ⟨h1, ?_⟩
        unfold World.shape? at h2
        rcases Nat.lt_or_ge a.block W.heap.size with q | q
        · exact q
        · rw [Array.getElem?_eq_none q] at h2; cases h2
      obtain ⟨blk, off, spot⟩ := a
      simp only at hsp
      obtain ⟨rfl, hblk⟩ := hsp
      simp only [if_true] at hall
      exact run a0 W _ len0 zs blk off ⟨cap0, rfl, hle, hblk, hall, fun i hi => hcell i (by omega)⟩
  clear hA0 hval0 hsz0 hsz
  refine (show Calls _ _ _ _ _ from main).mono fun e W' ⟨he, bel⟩ => ?_
  subst he
  exact ⟨_, rfl, _, _, _, [], _, [], hW', trodAll_mk1 (shut_bool Try.underlying4 _), trodAll_cons_mk (shut_int Try.underlying3 w0) (trodAll_cons_mk (fin W' bel) trodAll_mk0), rfl, bel.frame _, fun h => by cases h⟩
theorem over : Rows.poolPicksRow.holds Try.pinned (OpenSpec.ofChange Rows.poolPicksSpec) :=
  OpenClaim.holds_of_wide 4 Try.f4 rfl rfl rfl rfl rfl rfl rfl ⟨rfl, rfl, rfl, rfl, rfl⟩ rfl rfl rfl rfl rfl (by kernel_rfl) Try.func4 (by kernel_rfl)
    (of_decide_eq_true (by kernel_rfl)) (by unfold Func.isWrapper; first | (rw [if_pos (by decide +kernel)]; kernel_rfl) | (rw [if_neg (by decide +kernel)]; exact ⟨rfl, rfl⟩))
    (fun os started H enc _ => lifted os started H enc)
end Go.Proofs.Ythignahfnlgolaa.poolPicks
namespace Go.Proofs.Ythignahfnlgolaa
/-- The row, under a short name, for the claim. -/
theorem poolPicks_holds : Rows.PoolPicksSaid := poolPicks.over
end Go.Proofs.Ythignahfnlgolaa
#print axioms Go.Proofs.Ythignahfnlgolaa.poolPicks_holds
