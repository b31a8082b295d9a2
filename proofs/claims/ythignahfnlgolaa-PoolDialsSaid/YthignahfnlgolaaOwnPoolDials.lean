/- The law PoolDials returns true for every input, and leaves its argument as it was. Conditions: none. -/
import Derived.Test.YthignahfnlgolaaPoolDialsRound
import Derived.Test.YthignahfnlgolaaRows
import Derived.WalkKit
import Derived.ProofKit
import Derived.OpenShut
import Derived.ShutString
import Derived.ChangeOld
import Derived.Below
import Derived.SizedLaws
namespace Go.Proofs.Ythignahfnlgolaa.poolDials
open Go.ChangeShapes Go.WideShapes Go.ChangeAt Go.RowKit Go.Eng
noncomputable def enter (v : LV) (σ : St) (next : Option Unit) : Option Unit := match v with
  | .ptr p o => cond (Nat.beq o 0) (match σ.hp.get p with
    | some (.cells cs _ _) => (match nth 7 cs with
      | .map q => cond (okAt 0 p q σ) next none
      | _ => none)
    | _ => none) none
  | _ => none
theorem enter_ok {v : LV} {σ : St} {next : Option Unit} {r : Unit} (h : enter v σ next = some r) : ∃ p q, v = .ptr p 0 ∧ okAt 0 p q σ = true ∧ next = some r := by
  unfold enter at h
  split at h
  · rename_i p o
    obtain ⟨h1, h'⟩ := cond_some h
    clear h
    have h1 := natBeq.1 h1
    subst h1
    split at h'
    · split at h'
      · rename_i q _
        obtain ⟨h2, h3⟩ := cond_some h'
        exact ⟨p, q, rfl, h2, h3⟩
      · cases h'
    · cases h'
  · cases h
noncomputable def entryOk (n : Nat) (fr : Fr) : Bool := LV.beq (slN n) (getV (fr.get T.ts)) && LV.beq (.int .i64 (.ofNat n)) (getV (fr.get T.tl)) && LV.beq (.int .i64 0) (getV (fr.get T.ti)) && LV.beq (.int .i64 0) (getV (fr.get 4))
noncomputable def hd (n : Nat) : HK Unit := fun _ fr σ k => enter (getV (fr.get 3)) σ (cond (entryOk n fr) (k (.exit T.xid) .e ⟨.e, σ.nx⟩) none)
noncomputable def lawD (h : HK Unit) (arg : LV) : Option Unit :=
  runH C2 (call C2 100000 200) (callV C2 100000 200) 1000 h (compH Try.prog M Try.f3.ntmps hL body) (frameOf M .e 0 [arg]) ⟨.e, 1⟩ (retK (Try.f3.results.toList.map (cRes Try.prog)) Go.Eng.isTrue)
theorem heads : allN 21 (fun n => isSm (lawD (hd n) (slN n))) = true := by kernel_rfl
theorem long (n : Nat) : isSm (lawD (fun _ _ _ _ => none) (slN (n + 21))) = true := by kernel_rfl
theorem nil_ok : okCase2 C2 100000 200 3 ⟨.e, 0⟩ ⟨[], [.nilslice]⟩ = true := by kernel_rfl
theorem C2_holds (ν : Nat → Int) : C2.Holds ν := ⟨fun _ _ _ _ h => (by cases h), fun _ _ h => (by cases h)⟩
theorem law {h : HK Unit} {W : World} {v : Value} {n : Nat} {B : Blk} (hB : B.blk < W.heap.size) (hv : VR (fun _ => 0) (inj0 B) (slN n) v)
    (hh : ∀ i y, (i, y) ∈ holes hL body → HoleOk Try.prog (fun _ => 0) W.heap.size W M Try.f3.ntmps (fun _ : Unit => True) (inj0 B) W y (h i))
    (hk : isSm (lawD h (slN n)) = true) : Calls Try.prog 3 #[v] W fun e W' => e = .returned (.bool true) ∧ Go.RowKit.Below W.heap.size W W' := by
  unfold isSm at hk
  split at hk
  · rename_i u hu
    obtain ⟨R1, R2⟩ := recs_ok (R := Unit) (C := C2) (base := W.heap.size) (W := W) (ν := fun _ => 0) mixed (C2_holds _) rfl hnum (fun f p hp => prims2_ok f p hp) 100000 200
    refine (callH_ok (ok := fun _ : Unit => True) (C := C2) mixed (C2_holds _) rfl R1 R2 Try.func3 body_eq (by decide +kernel) (hd := h) (k := Go.Eng.isTrue) (r := u) trivial (args := [slN n]) (by simp) hh hu
      (rep0 (Below.refl _ _) (Nat.le_refl _) hB _) (VRs_cons hv VRs_nil)).mono fun e w' he => ?_
    obtain ⟨r', _, u', rfl, x, σ', ι', _, hrep, hx, hx2⟩ := he
    unfold Go.Eng.isTrue at hx2
    split at hx2
    · simp only [VR] at hx; subst hx; exact ⟨rfl, hrep.below⟩
    · cases hx2
  · cases hk
theorem run (W : World) (v : Value) (n : Nat) (bs : List Bool) (blk off : Nat) (hv : HeldB W v n bs blk off) : Calls Try.prog 3 #[v] W fun e W' => e = .returned (.bool true) ∧ Go.RowKit.Below W.heap.size W W' := by
  obtain ⟨B, rfl, rfl, hBlk, hvr⟩ := hv.plain (fun _ => 0)
  have hv0 := hvr (inj0 B) (by simp [inj0])
  rcases Nat.lt_or_ge n 21 with hn | hn
  · refine law hBlk hv0 ?_ (allN_mem heads n hn)
    intro i y hm
    rw [holes_body] at hm
    simp only [List.mem_singleton, Prod.mk.injEq] at hm
    obtain ⟨rfl, rfl⟩ := hm
    intro fr σ k r a w ι hk _ hst Hr hf
    obtain ⟨p, q, h3, hok, hk⟩ := enter_ok (show enter (getV (fr.get 3)) σ (cond (entryOk n fr) (k (.exit T.xid) .e ⟨.e, σ.nx⟩) none) = some r from hk)
    obtain ⟨h1, hk⟩ := cond_some hk
    simp only [entryOk, Bool.and_eq_true] at h1
    obtain ⟨⟨⟨e1, e2⟩, e3⟩, e4⟩ := h1
    have vals : ∀ t, VR (fun _ => 0) ι (getV (fr.get t)) (a.tmps.getD t undef) := fun t => HX_of (env := []) (loc := []) hf (fun t i h => by cases h) (.tmp t)
    have vts := vals T.ts
    rw [← LV.beq_eq _ _ e1] at vts
    have vtl := vals T.tl
    rw [← LV.beq_eq _ _ e2] at vtl
    simp only [VR] at vtl
    have vti := vals T.ti
    rw [← LV.beq_eq _ _ e3] at vti
    simp only [VR] at vti
    have v4 := vals 4
    rw [← LV.beq_eq _ _ e4] at v4
    simp only [VR] at v4
    have v3 := vals 3
    rw [h3] at v3
    have hι : ι 0 = some B := hst.le 0 B (by simp [inj0])
    have hBw : B.blk < w.heap.size := Nat.lt_of_lt_of_le hBlk hst.size
    obtain ⟨Bp, Bq, hp, hq, hview⟩ := view Hr hok hBw
    refine loop (base := W.heap.size) (W := W) (n := n) (by omega) (bs := bs) hι ⟨p, hp⟩ ⟨q, hq⟩ ?_ ?_ v4 ?_ vtl vti hf.defers hf.size hview ?_
    · intro i hi w' hb
      obtain ⟨C, _, c1, c2, c3, c4⟩ := hv
      rw [← c4 i (by omega)]
      have e : ((⟨B.blk, B.base, none⟩ : Addr).add i).block = B.blk := by unfold Addr.add; split <;> rfl
      unfold World.cell?
      rw [e, hb.block _ c2]
    · intro ν
      simp only [VR] at v3 ⊢
      obtain ⟨B', e5, e6⟩ := v3
      rw [hp] at e5; cases e5
      exact ⟨Bp, rfl, e6⟩
    · intro ν
      refine VR.closed (m := 1) (fun b hb => ?_) _ _ (by rfl) vts
      obtain rfl : b = 0 := by omega
      exact hι
    · intro a' w' hd hs hb hsz hold
      refine ⟨r, trivial, .exit T.xid, .e, ⟨.e, σ.nx⟩, ι, rfl, ⟨ι.le_refl, hsz, fun b B h k => (by rw [h] at k; cases k), hold⟩, ?_, ⟨hd, hs, fun t v h => (by cases h), fun t v h => (by cases h)⟩, hk⟩
      exact ⟨hb, hb.size, fun b o h => (by cases h), Hr.fresh, fun b B h => Nat.lt_of_lt_of_le (Hr.blk b B h) hsz, fun b cs c s h => (by cases h), fun b b' o o' B B' _ h => (by cases h), Hr.nx⟩
  · obtain ⟨m, rfl⟩ : ∃ m, n = m + 21 := ⟨n - 21, by omega⟩
    refine law hBlk hv0 ?_ (long m)
    intro i y hm fr σ k r a w ι hk
    cases hk
theorem laidOut : laidOutB Try.prog = true := by kernel_rfl
theorem cells4 : Try.prog.cellsOf 4 = 1 := by kernel_rfl
theorem own : ownKnob Try.prog.godebug = none := by kernel_rfl
set_option maxRecDepth 100000 in
theorem lifted (os : Os) (started : os.Started) (H : Type) (enc : TypeId × Value → H) :
    ReturnsInHanded {} Try.checked os 3 .any (Rows.poolDialsSpec.pre6 enc Try.prog Try.f3 Rows.poolDialsRow.domain false) (Rows.poolDialsSpec.post enc Try.prog Try.f3 false true false false) := by
  refine returnsInHanded_of_change_sized (C := Try.checked) own started (by kernel_rfl) Try.func3
    (ChangeSpec.witness6 (enc := enc) (C := Try.checked) false ⟨#[], #[.slice none 0 0], []⟩ 8 (by kernel_rfl) (by kernel_rfl) (by kernel_rfl) (by kernel_rfl)) ?_
  intro W base args ds gs before hval0 hW hcnd hsz0 _
  have hsz : (DataW.weightsEach Try.prog (Try.f3.params.toList ++ Rows.poolDialsSpec.plain.varTypes Try.prog) (ds ++ gs)).all (· ≤ reachBytes) = true := hsz0
  have hval : ∀ (j : Nat) t v, Try.f3.params[j]? = some t → args[j]? = some v → Value.okWide Try.prog W .any base t v := hval0
  have hW' := hW
  obtain ⟨p, q, hA0, hV, rfl, hfz, hnd⟩ := hW
  have hA : DataW.TrodAll enc Try.prog W 0 (fun _ => true) true Try.f3.params.toList args.toList ds p := hA0
  rw [Try.params3] at hA hval hsz
  obtain ⟨v1, vs1, d1, ds1, p1, q1, hargs, rfl, rfl, h1, r1⟩ := trodAll_cons hA
  obtain ⟨rfl, rfl, rfl⟩ := trodAll_nil r1
  obtain rfl : args = #[v1] := by cases args; simp_all
  obtain ⟨rfl, rfl⟩ := trodVars_none hV
  have hok := hval 0 22 v1 rfl rfl
  have hlt : ∀ x ∈ p1, x.block < W.heap.size := fun x hx => hW'.lt x (by simpa using hx)
  have fin : ∀ W', Go.RowKit.Below W.heap.size W W' → DataW.Trod enc Try.prog W' 0 (fun b => decide (b < W.heap.size)) true 22 v1 d1 p1 := fun W' hb => Below.trod laidOut (by kernel_rfl) (of_decide_eq_true (by kernel_rfl)) h1 hb hlt
  have main : Calls Try.prog 3 #[v1] W fun e W' => e = .returned (.bool true) ∧ Go.RowKit.Below W.heap.size W W' := by
    clear fin
    obtain ⟨b0, len0, cap0, rfl⟩ := okWide_slice Try.underlying22 hok
    obtain ⟨fuel, hf⟩ := h1
    rcases open_bools Try.underlying22 Try.underlying4 cells4 hf with hcs | ⟨a, len, cap, zs, hcs, hle, hall, hcell⟩
    · simp [Value.cells] at hcs
      obtain ⟨rfl, rfl, rfl⟩ := hcs
      exact okCase2_run (C := C2) (ν := fun _ => 0) mixed hnum rfl nil_ok (fun f p hp => prims2_ok f p hp) Facts.nil (repE _ W) (VRs_cons (by simp only [VR]) VRs_nil)
    · simp [Value.cells] at hcs
      obtain ⟨rfl, rfl, rfl⟩ := hcs
      have hsp : a.spot = none ∧ a.block < W.heap.size := by
        simp only [Value.okWide, Try.underlying22, Cell.okWide, Cell.ok, World.has] at hok
        obtain ⟨_, _, _, h1, row, cells, h2, _⟩ := hok
        refine ⟨h1, ?_⟩
        unfold World.shape? at h2
        rcases Nat.lt_or_ge a.block W.heap.size with q | q
        · exact q
        · rw [Array.getElem?_eq_none q] at h2; cases h2
      obtain ⟨blk, off, spot⟩ := a
      simp only at hsp
      obtain ⟨rfl, hblk⟩ := hsp
      simp only [if_true] at hall
      exact run W _ len0 zs blk off ⟨cap0, rfl, hle, hblk, hall, fun i hi => hcell i (by omega)⟩
  clear hA0 hval0 hsz0 hsz
  refine main.mono fun e W' ⟨he, bel⟩ => ?_
  subst he
  exact ⟨_, rfl, _, _, _, [], _, [], hW', trodAll_mk1 (shut_bool Try.underlying4 _), trodAll_cons_mk (fin W' bel) trodAll_mk0, rfl, bel.frame _, fun h => by cases h⟩
theorem over : Rows.poolDialsRow.holds Try.pinned (OpenSpec.ofChange Rows.poolDialsSpec) :=
  OpenClaim.holds_of_wide 3 Try.f3 rfl rfl rfl rfl rfl rfl rfl ⟨rfl, rfl, rfl, rfl, rfl⟩ rfl rfl rfl rfl rfl (by kernel_rfl) Try.func3 (by kernel_rfl)
    (of_decide_eq_true (by kernel_rfl)) (by unfold Func.isWrapper; first | (rw [if_pos (by decide +kernel)]; kernel_rfl) | (rw [if_neg (by decide +kernel)]; exact ⟨rfl, rfl⟩))
    (fun os started H enc _ => lifted os started H enc)
end Go.Proofs.Ythignahfnlgolaa.poolDials
namespace Go.Proofs.Ythignahfnlgolaa
/-- The row, under a short name, for the claim. -/
theorem poolDials_holds : Rows.PoolDialsSaid := poolDials.over
end Go.Proofs.Ythignahfnlgolaa
#print axioms Go.Proofs.Ythignahfnlgolaa.poolDials_holds
