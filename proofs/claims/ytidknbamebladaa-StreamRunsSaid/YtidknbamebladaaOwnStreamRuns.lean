/- The law StreamRuns returns true for every input, and leaves its argument as it was. Conditions: none. -/
import Derived.Test.YtidknbamebladaaStreamRunsLoop
import Derived.WalkKit
import Derived.ProofKit
import Derived.OpenShut
import Derived.ShutString
import Derived.ChangeOld
import Derived.Below
import Derived.SizedLaws
namespace Go.Proofs.Ytidknbamebladaa.streamRuns
open Go.ChangeShapes Go.WideShapes Go.ChangeAt Go.RowKit Go.Eng
def s0 : AS := [(3, .int .i64 0), (4, .bool false), (5, .bool false), (6, .bool false)]
/-- the loop: where the states are as they are at first, on behind it -/
noncomputable def hd (n : Nat) : HK Unit := fun _ fr σ k => cond (entryOk T n s0 fr) (goOn T σ k) none
theorem inj0_lt {B : Blk} (b : Nat) (hb : b < 1) : inj0 B b = some B := by
  obtain rfl : b = 0 := by omega
  rfl
theorem heads : allN 201 (fun n => isSm (lawF Try.prog M Try.f4.ntmps body (Try.f4.results.toList.map (cRes Try.prog)) (hd n) (slN n))) = true := by kernel_rfl
theorem long (n : Nat) : isSm (lawF Try.prog M Try.f4.ntmps body (Try.f4.results.toList.map (cRes Try.prog)) (fun _ _ _ _ => none) (slN (n + 201))) = true := by kernel_rfl
theorem nil_ok : okCase Try.prog M 1000 50 4 ⟨[], [.nilslice]⟩ = true := by kernel_rfl
theorem run (W : World) (v : Value) (n : Nat) (xs : Nat → Int) (B : Blk) (hv : Held W v n xs B) : Calls Try.prog 4 #[v] W fun e W' => e = .returned (.bool true) ∧ Go.RowKit.Below W.heap.size W W' := by
  have hBlk : B.blk < W.heap.size := by obtain ⟨C, h⟩ := hv; exact h.2.2.1
  rcases Nat.lt_or_ge n 201 with hn | hn
  · refine law_ints hnum (fn := Try.f4) (c := body) (mask := M) Try.func4 body_eq (by decide +kernel) hv ?_ (allN_mem heads n hn)
    intro i y hm
    rw [holes_body] at hm
    simp only [List.mem_singleton, Prod.mk.injEq] at hm
    obtain ⟨rfl, rfl⟩ := hm
    refine loop_hole (T := T) (by decide +kernel) (by decide) ?_
    intro fr σ k r a w ι hk hst Hr hf
    have hk : cond (entryOk T n s0 fr) (goOn T σ k) none = some r := hk
    obtain ⟨h1, hk⟩ := cond_some hk
    refine ⟨hk, fun Q hQx hQr => ?_⟩
    simp only [entryOk, Bool.and_eq_true] at h1
    obtain ⟨⟨⟨h1, h2⟩, h3⟩, h4⟩ := h1
    have vals : ∀ t, VR (fun _ => 0) ι (getV (fr.get t)) (a.tmps.getD t undef) := fun t => HX_of (env := []) (loc := []) hf (fun t i h => by cases h) (.tmp t)
    have vts := vals T.ts
    rw [← LV.beq_eq _ _ h1] at vts
    have vtl := vals T.tl
    rw [← LV.beq_eq _ _ h2] at vtl
    simp only [VR] at vtl
    have vti := vals T.ti
    rw [← LV.beq_eq _ _ h3] at vti
    simp only [VR] at vti
    have vs : ∀ p ∈ s0, VR (fun _ => 0) ι p.2 (a.tmps.getD p.1 undef) := by
      intro p hp
      unfold fits1 at h4
      rw [List.all_eq_true] at h4
      have := vals p.1
      rwa [← LV.beq_eq _ _ (h4 p hp)] at this
    refine loop_ok hnum (nt := Try.f4.ntmps) (by decide +kernel) (σ0 := sig) (ι0 := inj0 B) (m := 1) holes_x size at0 at1 at2 g0 g1 g2 p0 p1 p2 q0 q1 q2 und30 size3 agg3 (by decide +kernel) (show n ≤ 100000 by omega) (B := B) (xs := xs) (by simp [inj0]) (by omega)
      (fun i hi w' hb => hv.cell (Hr.below.trans (hb.mono Hr.hbase)) i hi) (fun b hb => ⟨B, inj0_lt b hb⟩)
      (fun ν w' hb => rep0 hb hb.size (Nat.lt_of_lt_of_le hBlk (Nat.le_trans Hr.below.size hb.size)) ν) (fun i _ => ecs_case (xs i)) closed keys (rounds n) (fun v hv => List.eq_of_mem_replicate hv) exits
      ⟨hf.defers, hf.size, fun _ ν => VR.closed (fun b hb => (hst.le b B (inj0_lt b hb)).trans (inj0_lt b hb).symm) _ _ (by rfl) vts, vtl, vti, s0, by simp [S, s0], ?_⟩ hQx hQr
    intro p hp ν
    have := vs p hp
    simp only [s0, List.mem_cons, List.not_mem_nil, or_false] at hp
    rcases hp with rfl | rfl | rfl | rfl <;> (simp only [VR] at this ⊢; exact this)
  · obtain ⟨q, rfl⟩ : ∃ q, n = q + 201 := ⟨n - 201, by omega⟩
    refine law_ints hnum (fn := Try.f4) (c := body) (mask := M) Try.func4 body_eq (by decide +kernel) hv ?_ (long q)
    intro i y hm fr σ k r a w ι hk
    cases hk
theorem laidOut : laidOutB Try.prog = true := by kernel_rfl
theorem cells3 : Try.prog.cellsOf 3 = 1 := by kernel_rfl
theorem own : ownKnob Try.prog.godebug = none := by kernel_rfl
set_option maxRecDepth 100000 in
theorem lifted (os : Os) (started : os.Started) (H : Type) (enc : TypeId × Value → H) :
    ReturnsInHanded {} Try.checked os 4 .any (Rows.streamRunsSpec.pre6 enc Try.prog Try.f4 Rows.streamRunsRow.domain false) (Rows.streamRunsSpec.post enc Try.prog Try.f4 false true false false) := by
  refine returnsInHanded_of_change_sized (C := Try.checked) own started (by kernel_rfl) Try.func4
    (ChangeSpec.witness6 (enc := enc) (C := Try.checked) false ⟨#[], #[.slice none 0 0], []⟩ 8 (by kernel_rfl) (by kernel_rfl) (by kernel_rfl) (by kernel_rfl)) ?_
  intro W base args ds gs before hval0 hW hcnd hsz0 _
  have hsz : (DataW.weightsEach Try.prog (Try.f4.params.toList ++ Rows.streamRunsSpec.plain.varTypes Try.prog) (ds ++ gs)).all (· ≤ reachBytes) = true := hsz0
  have hval : ∀ (j : Nat) t v, Try.f4.params[j]? = some t → args[j]? = some v → Value.okWide Try.prog W .any base t v := hval0
  have hW' := hW
  obtain ⟨p, q, hA0, hV, rfl, hfz, hnd⟩ := hW
  have hA : DataW.TrodAll enc Try.prog W 0 (fun _ => true) true Try.f4.params.toList args.toList ds p := hA0
  rw [Try.params4] at hA hval hsz
  obtain ⟨v0, vs0, d0, ds0, p0, q0, hargs, rfl, rfl, h0, r0⟩ := trodAll_cons hA
  obtain ⟨rfl, rfl, rfl⟩ := trodAll_nil r0
  obtain rfl : args = #[v0] := by cases args; simp_all
  obtain ⟨rfl, rfl⟩ := trodVars_none hV
  have hok := hval 0 30 v0 rfl rfl
  have hlt : ∀ x ∈ p0, x.block < W.heap.size := fun x hx => hW'.lt x (by simpa using hx)
  have fin : ∀ W', Go.RowKit.Below W.heap.size W W' → DataW.Trod enc Try.prog W' 0 (fun b => decide (b < W.heap.size)) true 30 v0 d0 p0 := fun W' hb => Below.trod laidOut (by kernel_rfl) (of_decide_eq_true (by kernel_rfl)) h0 hb hlt
  have main : Calls Try.prog 4 #[v0] W fun e W' => e = .returned (.bool true) ∧ Go.RowKit.Below W.heap.size W W' := by
    clear fin
    obtain ⟨a0, len0, cap0, rfl⟩ := okWide_slice Try.underlying30 hok
    obtain ⟨fuel, hf⟩ := h0
    rcases open_ints Try.underlying30 Try.underlying3 cells3 hf with ⟨hcs, hx⟩ | ⟨a, len, cap, zs, hcs, _, hle, hmax, hall, hx, hcell, hwf⟩
    · simp [Value.cells] at hcs
      obtain ⟨rfl, rfl, rfl⟩ := hcs
      exact okCase_run hnum nil_ok (ν := fun _ => 0) Facts.nil (VRs_cons (by simp only [VR]) VRs_nil)
    · simp [Value.cells] at hcs
      obtain ⟨rfl, rfl, rfl⟩ := hcs
      have hsp : a.spot = none ∧ a.block < W.heap.size := by
        simp only [Value.okWide, Try.underlying30, Cell.okWide, Cell.ok, World.has] at hok
        obtain ⟨_, _, _, h1, row, cells, h2, _⟩ := hok
        refine ⟨h1, ?_⟩
        unfold World.shape? at h2
        rcases Nat.lt_or_ge a.block W.heap.size with q | q
        · exact q
        · rw [Array.getElem?_eq_none q] at h2; cases h2
      obtain ⟨blk, off, spot⟩ := a
      simp only at hsp
      obtain ⟨rfl, hblk⟩ := hsp
      simp only [if_true] at hall
      exact run W _ len0 (fun i => zs.getD i 0) ⟨blk, off, off + cap0, 0⟩ ⟨cap0, rfl, hle, hblk, rfl, rfl, fun i hi => hcell i (by omega)⟩
  clear hA0 hval0 hsz0 hsz
  refine main.mono fun e W' ⟨he, bel⟩ => ?_
  subst he
  exact ⟨_, rfl, _, _, _, [], _, [], hW', trodAll_mk1 (shut_bool Try.underlying4 _), trodAll_cons_mk (fin W' bel) trodAll_mk0, rfl, bel.frame _, fun h => by cases h⟩
theorem over : Rows.streamRunsRow.holds Try.pinned (OpenSpec.ofChange Rows.streamRunsSpec) :=
  OpenClaim.holds_of_wide 4 Try.f4 rfl rfl rfl rfl rfl rfl rfl ⟨rfl, rfl, rfl, rfl, rfl⟩ rfl rfl rfl rfl rfl (by kernel_rfl) Try.func4 (by kernel_rfl)
    (of_decide_eq_true (by kernel_rfl)) (by unfold Func.isWrapper; first | (rw [if_pos (by decide +kernel)]; kernel_rfl) | (rw [if_neg (by decide +kernel)]; exact ⟨rfl, rfl⟩))
    (fun os started H enc _ => lifted os started H enc)
end Go.Proofs.Ytidknbamebladaa.streamRuns
namespace Go.Proofs.Ytidknbamebladaa
/-- The row, under a short name, for the claim. -/
theorem streamRuns_holds : Rows.StreamRunsSaid := streamRuns.over
end Go.Proofs.Ytidknbamebladaa
#print axioms Go.Proofs.Ytidknbamebladaa.streamRuns_holds
