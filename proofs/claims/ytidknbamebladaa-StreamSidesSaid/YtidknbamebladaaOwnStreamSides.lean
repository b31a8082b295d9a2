/- The law StreamSides returns true for every input, and leaves its argument as it was. Conditions: none. -/
import Derived.Test.YtidknbamebladaaStreamSidesLoop
import Derived.WalkKit
import Derived.ProofKit
import Derived.OpenShut
import Derived.ShutString
import Derived.ChangeOld
import Derived.Below
import Derived.SizedLaws
namespace Go.Proofs.Ytidknbamebladaa.streamSides
open Go.ChangeShapes Go.WideShapes Go.ChangeAt Go.RowKit Go.Eng
def s0 : AS := [(3, .int .i64 1), (4, .int .i64 1)]
def turned : List LV := [.int .i64 0, .int .i64 1, .int .i64 3, .int .i64 2, .int .i64 4]
/-- it is a slice of five: these -/
noncomputable def turnedAt (σ : St) (v : LV) (q : Option Unit) : Option Unit := match v with
  | .slice e b o len (some c) => cond (Nat.beq e 1 && Nat.beq o 0 && Nat.beq len 5 && Nat.beq c 5) (match σ.hp.get b with
    | some (.cells cs _ _) => cond (LV.beqs cs turned) q none
    | _ => none) none
  | _ => none
theorem turnedAt_ok {σ : St} {v : LV} {q : Option Unit} {r : Unit} (h : turnedAt σ v q = some r) : ∃ b c st, v = .slice 1 b 0 5 (some 5) ∧ σ.hp.get b = some (.cells turned c st) ∧ q = some r := by
  unfold turnedAt at h
  split at h
  · obtain ⟨h1, h'⟩ := cond_some h
    clear h
    simp only [Bool.and_eq_true, natBeq] at h1
    obtain ⟨⟨⟨rfl, rfl⟩, rfl⟩, rfl⟩ := h1
    split at h'
    · rename_i hb
      obtain ⟨h2, h3⟩ := cond_some h'
      rw [LV.beqs_eq _ _ h2] at hb
      exact ⟨_, _, _, rfl, hb, h3⟩
    · cases h'
  · cases h
def inj1 (B B1 : Blk) : Inj := fun b => if b = 0 then some B else if b = 1 then some B1 else none
theorem inj1_lt {B B1 : Blk} (b : Nat) (hb : b < 2) : ∃ B', inj1 B B1 b = some B' := by
  obtain rfl | rfl : b = 0 ∨ b = 1 := by omega
  · exact ⟨B, rfl⟩
  · exact ⟨B1, rfl⟩
theorem rep1 {w w' : World} {ι : Inj} {b c st : Nat} {ν0 : Nat → Int} {base : Nat} {B B1 : Blk} (h : OR ν0 base w ι b (.cells turned c st)) (hB1 : ι b = some B1) (hB : B.blk < w.heap.size) (hb1 : B1.blk < w.heap.size) (hb : Go.RowKit.Below w.heap.size w w') (ν : Nat → Int) :
    Rep ν w.heap.size w sig (inj1 B B1) w' := by
  have hg : ∀ j o, sig.hp.get j = some o → j = 1 ∧ o = .cells turned 1 3 := by
    intro j o hj
    have hj : (Tr.set .e 1 (some (.cells turned 1 3))).get j = some o := hj
    rw [Tr.get_set _ _ _ _ (by omega)] at hj
    by_cases e : j = 1
    · rw [if_pos e] at hj; cases hj; exact ⟨e, rfl⟩
    · rw [if_neg e] at hj; cases hj
  obtain ⟨B2, arr, e, fz, h1, h2, h3, h4, h5, h6, h7, _⟩ := h
  rw [hB1] at h1; cases h1
  refine ⟨hb, hb.size, ?_, ?_, ?_, ?_, ?_, (by decide)⟩
  · intro j o hj
    obtain ⟨rfl, rfl⟩ := hg j o hj
    exact ⟨B1, arr, e, fz, rfl, (hb.block _ hb1).trans h2, h3, h4, h5, VRs.closed (m := 0) (fun b hb => absurd hb (by omega)) _ _ (by rfl) h6, h7, .inl rfl⟩
  · intro j B' hj
    show j < 2
    unfold inj1 at hj
    split at hj
    · omega
    · split at hj
      · omega
      · cases hj
  · intro j B' hj
    unfold inj1 at hj
    split at hj
    · cases hj; exact Nat.lt_of_lt_of_le hB hb.size
    · split at hj
      · cases hj; exact Nat.lt_of_lt_of_le hb1 hb.size
      · cases hj
  · intro j cs c s hj
    obtain ⟨rfl, e⟩ := hg j _ hj
    cases e
    show 1 < 2
    omega
  · intro j j' o o' B' B2' hne h1 h2
    exact absurd ((hg j o h1).1.trans (hg j' o' h2).1.symm) hne
def s5 : AS := [(5, .slice 1 1 0 5 (some 5)), (3, .int .i64 1), (4, .int .i64 1)]
/-- the loop: where the states are as they are at first, and the list of the turned ones is there, on behind it -/
noncomputable def hd (n : Nat) : HK Unit := fun _ fr σ k => turnedAt σ (getV (fr.get 5)) (cond (entryOk T n s0 fr) (goOn T σ k) none)
theorem inj0_lt {B : Blk} (b : Nat) (hb : b < 1) : inj0 B b = some B := by
  obtain rfl : b = 0 := by omega
  rfl
theorem heads : allN 101 (fun n => isSm (lawF Try.prog M Try.f5.ntmps body (Try.f5.results.toList.map (cRes Try.prog)) (hd n) (slN n))) = true := by kernel_rfl
theorem long (n : Nat) : isSm (lawF Try.prog M Try.f5.ntmps body (Try.f5.results.toList.map (cRes Try.prog)) (fun _ _ _ _ => none) (slN (n + 101))) = true := by kernel_rfl
theorem nil_ok : okCase Try.prog M 1000 50 5 ⟨[], [.nilslice]⟩ = true := by kernel_rfl
theorem run (W : World) (v : Value) (n : Nat) (xs : Nat → Int) (B : Blk) (hv : Held W v n xs B) : Calls Try.prog 5 #[v] W fun e W' => e = .returned (.bool true) ∧ Go.RowKit.Below W.heap.size W W' := by
  have hBlk : B.blk < W.heap.size := by obtain ⟨C, h⟩ := hv; exact h.2.2.1
  rcases Nat.lt_or_ge n 101 with hn | hn
  · refine law_ints hnum (fn := Try.f5) (c := body) (mask := M) Try.func5 body_eq (by decide +kernel) hv ?_ (allN_mem heads n hn)
    intro i y hm
    rw [holes_body] at hm
    simp only [List.mem_singleton, Prod.mk.injEq] at hm
    obtain ⟨rfl, rfl⟩ := hm
    refine loop_hole (T := T) (by decide +kernel) (by decide) ?_
    intro fr σ k r a w ι hk hst Hr hf
    obtain ⟨b5, c5, st5, hv5, hb5, hk⟩ := turnedAt_ok (show turnedAt σ (getV (fr.get 5)) (cond (entryOk T n s0 fr) (goOn T σ k) none) = some r from hk)
    obtain ⟨h1, hk⟩ := cond_some hk
    refine ⟨hk, fun Q hQx hQr => ?_⟩
    simp only [entryOk, Bool.and_eq_true] at h1
    obtain ⟨⟨⟨h1, h2⟩, h3⟩, h4⟩ := h1
    have vals : ∀ t, VR (fun _ => 0) ι (getV (fr.get t)) (a.tmps.getD t undef) := fun t => HX_of (env := []) (loc := []) hf (fun t i h => by cases h) (.tmp t)
    have vts := vals T.ts
    rw [← LV.beq_eq _ _ h1] at vts
    have vtl := vals T.tl
    rw [← LV.beq_eq _ _ h2] at vtl
    simp only [VR] at vtl
    have vti := vals T.ti
    rw [← LV.beq_eq _ _ h3] at vti
    simp only [VR] at vti
    have vs : ∀ p ∈ s0, VR (fun _ => 0) ι p.2 (a.tmps.getD p.1 undef) := by
      intro p hp
      unfold fits1 at h4
      rw [List.all_eq_true] at h4
      have := vals p.1
      rwa [← LV.beq_eq _ _ (h4 p hp)] at this
    have v5 := vals 5
    rw [hv5] at v5
    have hor := Hr.obj _ _ hb5
    obtain ⟨B1, hB1⟩ := hor.some
    refine loop_ok hnum (nt := Try.f5.ntmps) (by decide +kernel) (σ0 := sig) (ι0 := inj1 B B1) (m := 2) holes_x size at0 at1 at2 g0 g1 g2 p0 p1 p2 q0 q1 q2 und30 size3 agg3 (by decide +kernel) (show n ≤ 100000 by omega) (B := B) (xs := xs) rfl (by omega)
      (fun i hi w' hb => hv.cell (Hr.below.trans (hb.mono Hr.hbase)) i hi) inj1_lt
      (fun ν w' hb => rep1 hor hB1 (Nat.lt_of_lt_of_le hBlk Hr.below.size) (Hr.blk _ _ hB1) hb ν) (fun i _ => ecs_case (xs i)) closed keys (rounds n) (fun v hv => List.eq_of_mem_replicate hv) exits
      ⟨hf.defers, hf.size, fun _ ν => VR.closed (m := 1) (fun b hb => by obtain rfl : b = 0 := by omega
                                                                         exact hst.le 0 B rfl) _ _ (by rfl) vts, vtl, vti, s5, by simp [S, s5], ?_⟩ hQx hQr
    intro p hp ν
    simp only [s5, List.mem_cons, List.not_mem_nil, or_false] at hp
    rcases hp with rfl | rfl | rfl
    · simp only [VR] at v5 ⊢
      obtain ⟨B', a', C, e1, e2⟩ := v5
      rw [hB1] at e1; cases e1
      exact ⟨B1, a', C, rfl, e2⟩
    · have := vs (3, .int .i64 1) (by simp [s0])
      simp only [VR] at this ⊢; exact this
    · have := vs (4, .int .i64 1) (by simp [s0])
      simp only [VR] at this ⊢; exact this
  · obtain ⟨q, rfl⟩ : ∃ q, n = q + 101 := ⟨n - 101, by omega⟩
    refine law_ints hnum (fn := Try.f5) (c := body) (mask := M) Try.func5 body_eq (by decide +kernel) hv ?_ (long q)
    intro i y hm fr σ k r a w ι hk
    cases hk
theorem laidOut : laidOutB Try.prog = true := by kernel_rfl
theorem cells3 : Try.prog.cellsOf 3 = 1 := by kernel_rfl
theorem own : ownKnob Try.prog.godebug = none := by kernel_rfl
set_option maxRecDepth 100000 in
theorem lifted (os : Os) (started : os.Started) (H : Type) (enc : TypeId × Value → H) :
    ReturnsInHanded {} Try.checked os 5 .any (Rows.streamSidesSpec.pre6 enc Try.prog Try.f5 Rows.streamSidesRow.domain false) (Rows.streamSidesSpec.post enc Try.prog Try.f5 false true false false) := by
  refine returnsInHanded_of_change_sized (C := Try.checked) own started (by kernel_rfl) Try.func5
    (ChangeSpec.witness6 (enc := enc) (C := Try.checked) false ⟨#[], #[.slice none 0 0], []⟩ 8 (by kernel_rfl) (by kernel_rfl) (by kernel_rfl) (by kernel_rfl)) ?_
  intro W base args ds gs before hval0 hW hcnd hsz0 _
  have hsz : (DataW.weightsEach Try.prog (Try.f5.params.toList ++ Rows.streamSidesSpec.plain.varTypes Try.prog) (ds ++ gs)).all (· ≤ reachBytes) = true := hsz0
  have hval : ∀ (j : Nat) t v, Try.f5.params[j]? = some t → args[j]? = some v → Value.okWide Try.prog W .any base t v := hval0
  have hW' := hW
  obtain ⟨p, q, hA0, hV, rfl, hfz, hnd⟩ := hW
  have hA : DataW.TrodAll enc Try.prog W 0 (fun _ => true) true Try.f5.params.toList args.toList ds p := hA0
  rw [Try.params5] at hA hval hsz
  obtain ⟨v0, vs0, d0, ds0, p0, q0, hargs, rfl, rfl, h0, r0⟩ := trodAll_cons hA
  obtain ⟨rfl, rfl, rfl⟩ := trodAll_nil r0
  obtain rfl : args = #[v0] := by cases args; simp_all
  obtain ⟨rfl, rfl⟩ := trodVars_none hV
  have hok := hval 0 30 v0 rfl rfl
  have hlt : ∀ x ∈ p0, x.block < W.heap.size := fun x hx => hW'.lt x (by simpa using hx)
  have fin : ∀ W', Go.RowKit.Below W.heap.size W W' → DataW.Trod enc Try.prog W' 0 (fun b => decide (b < W.heap.size)) true 30 v0 d0 p0 := fun W' hb => Below.trod laidOut (by kernel_rfl) (of_decide_eq_true (by kernel_rfl)) h0 hb hlt
  have main : Calls Try.prog 5 #[v0] W fun e W' => e = .returned (.bool true) ∧ Go.RowKit.Below W.heap.size W W' := by
    clear fin
    obtain ⟨a0, len0, cap0, rfl⟩ := okWide_slice Try.underlying30 hok
    obtain ⟨fuel, hf⟩ := h0
    rcases open_ints Try.underlying30 Try.underlying3 cells3 hf with ⟨hcs, hx⟩ | ⟨a, len, cap, zs, hcs, _, hle, hmax, hall, hx, hcell, hwf⟩
    · simp [Value.cells] at hcs
      obtain ⟨rfl, rfl, rfl⟩ := hcs
      exact okCase_run hnum nil_ok (ν := fun _ => 0) Facts.nil (VRs_cons (by simp only [VR]) VRs_nil)
    · simp [Value.cells] at hcs
      obtain ⟨rfl, rfl, rfl⟩ := hcs
      have hsp : a.spot = none ∧ a.block < W.heap.size := by
        simp only [Value.okWide, Try.underlying30, Cell.okWide, Cell.ok, World.has] at hok
        obtain ⟨_, _, _, h1, row, cells, h2, _⟩ := hok
        refine ⟨h1, ?_⟩
        unfold World.shape? at h2
        rcases Nat.lt_or_ge a.block W.heap.size with q | q
        · exact q
        · rw [Array.getElem?_eq_none q] at h2; cases h2
      obtain ⟨blk, off, spot⟩ := a
      simp only at hsp
      obtain ⟨rfl, hblk⟩ := hsp
      simp only [if_true] at hall
      exact run W _ len0 (fun i => zs.getD i 0) ⟨blk, off, off + cap0, 0⟩ ⟨cap0, rfl, hle, hblk, rfl, rfl, fun i hi => hcell i (by omega)⟩
  clear hA0 hval0 hsz0 hsz
  refine main.mono fun e W' ⟨he, bel⟩ => ?_
  subst he
  exact ⟨_, rfl, _, _, _, [], _, [], hW', trodAll_mk1 (shut_bool Try.underlying4 _), trodAll_cons_mk (fin W' bel) trodAll_mk0, rfl, bel.frame _, fun h => by cases h⟩
theorem over : Rows.streamSidesRow.holds Try.pinned (OpenSpec.ofChange Rows.streamSidesSpec) :=
  OpenClaim.holds_of_wide 5 Try.f5 rfl rfl rfl rfl rfl rfl rfl ⟨rfl, rfl, rfl, rfl, rfl⟩ rfl rfl rfl rfl rfl (by kernel_rfl) Try.func5 (by kernel_rfl)
    (of_decide_eq_true (by kernel_rfl)) (by unfold Func.isWrapper; first | (rw [if_pos (by decide +kernel)]; kernel_rfl) | (rw [if_neg (by decide +kernel)]; exact ⟨rfl, rfl⟩))
    (fun os started H enc _ => lifted os started H enc)
end Go.Proofs.Ytidknbamebladaa.streamSides
namespace Go.Proofs.Ytidknbamebladaa
/-- The row, under a short name, for the claim. -/
theorem streamSides_holds : Rows.StreamSidesSaid := streamSides.over
end Go.Proofs.Ytidknbamebladaa
#print axioms Go.Proofs.Ytidknbamebladaa.streamSides_holds
