/- The law PoolMost: round by round one connection more; what each of its parts does, joined. Conditions: none. -/
import Derived.Test.YthignahfnlgolaaGreatDoorPoolMostR0
import Derived.Test.YthignahfnlgolaaGreatDoorPoolMostR1
import Derived.Test.YthignahfnlgolaaGreatDoorPoolMostR2
import Derived.Test.YthignahfnlgolaaGreatDoorPoolMostR3
import Derived.Test.YthignahfnlgolaaGreatDoorPoolMostR4
import Derived.Test.YthignahfnlgolaaGreatDoorPoolMostH
namespace Go.Proofs.YthignahfnlgolaaGreatDoor.poolMost
open Go.Eng
open Go.RowKit (Below)
set_option maxRecDepth 100000
theorem rounds : ∀ i, i < 10 → roundR i = true
  | 0, _ => round0
  | 1, _ => round1
  | 2, _ => round2
  | 3, _ => round3
  | 4, _ => round4
  | 5, _ => round5
  | 6, _ => round6
  | 7, _ => round7
  | 8, _ => round8
  | 9, _ => round9
  | k + 10, h => absurd h (by omega)
theorem heads : ∀ i, i < 11 → headH i = true
  | 0, _ => head0
  | 1, _ => head1
  | 2, _ => head2
  | 3, _ => head3
  | 4, _ => head4
  | 5, _ => head5
  | 6, _ => head6
  | 7, _ => head7
  | 8, _ => head8
  | 9, _ => head9
  | 10, _ => head10
  | k + 11, h => absurd h (by omega)
theorem sameE_eq : ∀ {a b : List (LV × LV × Nat)}, sameE a b = true → a = b
  | [], [], _ => rfl
  | [], _ :: _, h => by cases h
  | _ :: _, [], h => by cases h
  | (x, v, n) :: r, (y, u, m) :: s, h => by
    simp only [sameE, Bool.and_eq_true, natBeq] at h
    obtain ⟨⟨⟨h1, h2⟩, h3⟩, h4⟩ := h
    rw [LV.beq_eq _ _ h1, LV.beq_eq _ _ h2, h3, sameE_eq h4]
theorem sameO_eq {a b : LO} (h : sameO a b = true) : a = b := by
  cases a <;> cases b <;> simp only [sameO] at h <;> try (cases h; done)
  · simp only [Bool.and_eq_true, natBeq] at h
    obtain ⟨⟨h1, h2⟩, h3⟩ := h
    rw [LV.beqs_eq _ _ h1, h2, h3]
  · simp only [Bool.and_eq_true, natBeq] at h
    rw [sameE_eq h.1, h.2]
theorem mkHp_mem : ∀ {S : List (Nat × LO)}, (∀ p ∈ S, p.1 ≤ 100000) → ∀ b o, (mkHp S).get b = some o → (b, o) ∈ S
  | [], _, b, o, h => by cases h
  | p :: S, hS, b, o, h => by
    have h : (Tr.set (mkHp S) p.1 (some p.2)).get b = some o := h
    rw [Tr.get_set _ _ _ _ (by have := hS p (List.mem_cons_self ..); omega)] at h
    by_cases e : b = p.1
    · rw [if_pos e] at h; cases h; rw [e]; exact List.mem_cons_self ..
    · rw [if_neg e] at h; exact List.mem_cons_of_mem _ (mkHp_mem (fun q hq => hS q (List.mem_cons_of_mem _ hq)) b o h)
section
variable {ν : Nat → Int} {base : Nat} {W w : World} {σ : St} {ι : Inj}
theorem of_fits {S : List (Nat × LO)} {n : Nat} (H : Rep ν base W σ ι w) (h : fitsSt S n σ = true) : Rep ν base W (mkSt S n) ι w := by
  unfold fitsSt at h
  simp only [Bool.and_eq_true, natBeq, List.all_eq_true, natBle] at h
  obtain ⟨h1, h2⟩ := h
  have := H.less (mkHp S) (fun b o hb => by
    have hm := mkHp_mem (fun p hp => (h2 p hp).1) b o hb
    have h3 := (h2 _ hm).2
    simp only at h3
    split at h3
    · rename_i o' ho'
      rw [sameO_eq h3]; exact ho'
    · cases h3)
  unfold mkSt
  rw [h1]; exact this
theorem C_holds {l : List (BinOp × E × E × Bool)} (h : Facts ν l) : (CF l).Holds ν := ⟨h, fun _ _ h => by cases h⟩
theorem F0_ok (h : 1 ≤ ν 0 ∧ ν 0 ≤ 3) : Facts ν F0 := by
  intro op a b r hm
  simp only [F0, List.mem_cons, List.not_mem_nil, or_false, Prod.mk.injEq] at hm
  rcases hm with ⟨rfl, rfl, rfl, rfl⟩ | ⟨rfl, rfl, rfl, rfl⟩ | ⟨rfl, rfl, rfl, rfl⟩
  · exact decide_eq_false (p := ν 0 < 1) (by omega)
  · exact decide_eq_false (p := ν 0 > 3) (by omega)
  · exact decide_eq_true (p := (0 : Int) < ν 0) (by omega)
theorem FR_ok (h : 1 ≤ ν 0 ∧ ν 0 ≤ 3) {i : Nat} (hi : (i : Int) < ν 1) : Facts ν (FR i) := by
  intro op a b r hm
  rcases List.mem_cons.1 hm with e | hm
  · cases e; exact decide_eq_true (p := (i : Int) < ν 1) hi
  · exact F0_ok h op a b r hm
theorem keys (v : LV) (i : Nat) : keysOk M (frL v i) = true := by kernel_rfl
theorem keysE (n : Nat) : keysOk M (frE n) = true := by kernel_rfl
theorem loop {n : Nat} (hn : n ≤ 10) (h0 : 1 ≤ ν 0 ∧ ν 0 ≤ 3) (h1 : ν 1 = n) {R : Type} {ok : R → Prop} {ι0 : Inj} {w0 : World} {fr : Fr} {σ : St} {k : ExK R} {r : R} {a : Act} (hok : ok r) (hst : fits1 fr (frL (.int .i64 (.ofNat n)) 0) = true ∧ fitsSt (stL 0) (nxOf 0) σ = true)
    (hk : k (.exit 0) (mkFr (frE n)) (mkSt (stL n) (nxOf n)) = some r) (H : Rep ν base W σ ι w) (hf : FrOk ν ι M Tryz.f3.ntmps fr a) (_ : Step ι0 w0 ι w) : (Code.loop x).wp Tryz.prog (ExQs ν base W M Tryz.f3.ntmps ok ι w k) a w := by
  have hP2 : ∀ f p, prims2 F0 f = some p → PrimOk Tryz.prog ν base W f p := fun f p hp => prims2_ok (F0_ok h0) f p hp
  have vals : ∀ {fr' : Fr} {a' : Act} {ι' : Inj} {l : AS}, fits1 fr' l = true → FrOk ν ι' M Tryz.f3.ntmps fr' a' → ∀ p ∈ l, VR ν ι' p.2 (a'.tmps.getD p.1 undef) := by
    intro fr' a' ι' l h1 h2 p hp
    rw [fits1_get h1 p hp]
    exact HX_of (env := []) (loc := []) h2 (fun t i h => by cases h) (.tmp p.1)
  let I : Nat → Act → World → Prop := fun m a' w' => ∃ i ι', i + m = n ∧ Step ι w ι' w' ∧ Rep ν base W (mkSt (stL i) (nxOf i)) ι' w' ∧ a'.defers = [] ∧ Tryz.f3.ntmps ≤ a'.tmps.size ∧ ∀ p ∈ frL (.int .i64 (.ofNat n)) i, VR ν ι' p.2 (a'.tmps.getD p.1 undef)
  refine wp_loop_ghost I n ⟨0, ι, by omega, .refl _ _, of_fits H hst.2, hf.defers, hf.size, vals hst.1 hf⟩ ?_
  rintro m a1 w1 ⟨i, ι1, him, S1, H1, d1, s1, v1⟩
  by_cases hi : i < n
  · have hr := isSm_some (rounds i (by omega))
    have hC : (CF (FR i)).Holds ν := C_holds (FR_ok h0 (by omega))
    obtain ⟨R1, R2⟩ := recs_ok (R := Unit) (C := CF (FR i)) (base := base) (W := W) (ν := ν) mixed hC rfl hnum hP2 100000 200
    have hf1 : FrOk ν ι1 M Tryz.f3.ntmps (mkFr (frL (.sym .i64 (.var 1)) i)) a1 := by
      refine mkFr_ok (keys _ i) d1 s1 ?_
      intro p hp
      cases hp with
      | head =>
        have := v1 _ (List.mem_cons_self ..)
        simp only [VR] at this ⊢
        rw [this]
        show Value.int .i64 (n : Int) = Value.int .i64 (ν 1)
        rw [h1]
      | tail _ hp => exact v1 p (List.mem_cons_of_mem _ hp)
    refine wp_mono (runH_ok (ι0 := ι1) (w0 := w1) mixed hC rfl R1 R2 (by decide +kernel) (ok := fun _ => True) x _ _ _ () a1 w1 ι1 (fun i x _ fr σ k r a w ι h => by cases h) hr trivial (.refl _ _) H1 hf1) ?_
    rintro e a' w' ⟨r', _, o, fr', σ', ι', rfl, f1, f2, f3, f4⟩
    cases o with
    | ret => cases f4
    | exit id => cases f4
    | normal =>
      obtain ⟨g, _⟩ := cond_some (show cond (fits1 fr' (frL (.sym .i64 (.var 1)) (Nat.succ i)) && fitsSt (stL (Nat.succ i)) (nxOf (Nat.succ i)) σ') (some ()) none = some r' from f4)
      simp only [Bool.and_eq_true] at g
      have v2 := vals g.1 f3
      refine ⟨m - 1, by omega, i + 1, ι', by omega, S1.trans f1, of_fits f2 g.2, f3.defers, f3.size, ?_⟩
      intro p hp
      cases hp with
      | head =>
        have := v2 _ (List.mem_cons_self ..)
        simp only [VR] at this ⊢
        rw [this]
        show Value.int .i64 (ν 1) = Value.int .i64 (n : Int)
        rw [h1]
      | tail _ hp => exact v2 p (List.mem_cons_of_mem _ hp)
  · obtain rfl : i = n := by omega
    have hr := isSm_some (allN_mem exits i (by omega))
    have hC : (CF F0).Holds ν := C_holds (F0_ok h0)
    obtain ⟨R1, R2⟩ := recs_ok (R := Unit) (C := CF F0) (base := base) (W := W) (ν := ν) mixed hC rfl hnum hP2 100000 200
    refine wp_mono (runH_ok (ι0 := ι1) (w0 := w1) mixed hC rfl R1 R2 (by decide +kernel) (ok := fun _ => True) x _ _ _ () a1 w1 ι1 (fun i x _ fr σ k r a w ι h => by cases h) hr trivial (.refl _ _) H1 (mkFr_ok (keys _ i) d1 s1 v1)) ?_
    rintro e a' w' ⟨r', _, o, fr', σ', ι', rfl, f1, f2, f3, f4⟩
    cases o with
    | normal => cases f4
    | ret => cases f4
    | exit id =>
      obtain ⟨g, _⟩ := cond_some (show cond (Nat.beq id 0 && fits1 fr' (frE i) && fitsSt (stL i) (nxOf i) σ') (some ()) none = some r' from f4)
      simp only [Bool.and_eq_true, natBeq] at g
      obtain ⟨⟨rfl, g1⟩, g2⟩ := g
      exact ⟨r, hok, .exit 0, mkFr (frE i), mkSt (stL i) (nxOf i), ι', rfl, S1.trans f1, of_fits f2 g2, mkFr_ok (keysE i) f3.defers f3.size (vals g1 f3), hk⟩
end
noncomputable def CO : Cfg := ⟨Tryz.prog, fun f => masks.getD f 0, prims2 [], [], []⟩
def args2 : List LV := [.sym .i64 (.var 0), .sym .i64 (.var 1)]
theorem out0 : okCase2 CO 100000 200 3 ⟨.e, 0⟩ ⟨[(.lss, .var 0, .lit 1, true)], args2⟩ = true := by kernel_rfl
theorem out1 : okCase2 CO 100000 200 3 ⟨.e, 0⟩ ⟨[(.lss, .var 0, .lit 1, false), (.gtr, .var 0, .lit 3, true)], args2⟩ = true := by kernel_rfl
theorem out2 : okCase2 CO 100000 200 3 ⟨.e, 0⟩ ⟨[(.lss, .var 0, .lit 1, false), (.gtr, .var 0, .lit 3, false), (.lss, .var 1, .lit 0, true)], args2⟩ = true := by kernel_rfl
theorem out3 : okCase2 CO 100000 200 3 ⟨.e, 0⟩ ⟨[(.lss, .var 0, .lit 1, false), (.gtr, .var 0, .lit 3, false), (.lss, .var 1, .lit 0, false), (.gtr, .var 1, .lit 10, true)], args2⟩ = true := by kernel_rfl
theorem run (a b : Int) (W : World) : Calls Tryz.prog 3 #[.int .i64 a, .int .i64 b] W fun e W' => e = .returned (.bool true) ∧ Below W.heap.size W W' := by
  let ν : Nat → Int := fun j => if j = 0 then a else b
  have hv : VRs ν (fun _ => none) args2 [.int .i64 a, .int .i64 b] := VRs_cons (by simp only [VR]; rfl) (VRs_cons (by simp only [VR]; rfl) VRs_nil)
  have outside : ∀ {l : List (BinOp × E × E × Bool)}, okCase2 CO 100000 200 3 ⟨.e, 0⟩ ⟨l, args2⟩ = true → Facts ν l → Calls Tryz.prog 3 #[.int .i64 a, .int .i64 b] W fun e W' => e = .returned (.bool true) ∧ Below W.heap.size W W' :=
    fun h hf => okCase2_run (C := CO) (ν := ν) mixed hnum rfl h (fun f p hp => prims2_ok Facts.nil f p hp) hf (repE _ W) hv
  by_cases c0 : a < 1
  · refine outside out0 ?_
    intro op x y r hm
    simp only [List.mem_cons, List.not_mem_nil, or_false, Prod.mk.injEq] at hm
    obtain ⟨rfl, rfl, rfl, rfl⟩ := hm
    exact decide_eq_true (p := a < 1) c0
  by_cases c1 : a > 3
  · refine outside out1 ?_
    intro op x y r hm
    simp only [List.mem_cons, List.not_mem_nil, or_false, Prod.mk.injEq] at hm
    rcases hm with ⟨rfl, rfl, rfl, rfl⟩ | ⟨rfl, rfl, rfl, rfl⟩
    · exact decide_eq_false (p := a < 1) c0
    · exact decide_eq_true (p := a > 3) c1
  by_cases c2 : b < 0
  · refine outside out2 ?_
    intro op x y r hm
    simp only [List.mem_cons, List.not_mem_nil, or_false, Prod.mk.injEq] at hm
    rcases hm with ⟨rfl, rfl, rfl, rfl⟩ | ⟨rfl, rfl, rfl, rfl⟩ | ⟨rfl, rfl, rfl, rfl⟩
    · exact decide_eq_false (p := a < 1) c0
    · exact decide_eq_false (p := a > 3) c1
    · exact decide_eq_true (p := b < 0) c2
  by_cases c3 : b > 10
  · refine outside out3 ?_
    intro op x y r hm
    simp only [List.mem_cons, List.not_mem_nil, or_false, Prod.mk.injEq] at hm
    rcases hm with ⟨rfl, rfl, rfl, rfl⟩ | ⟨rfl, rfl, rfl, rfl⟩ | ⟨rfl, rfl, rfl, rfl⟩ | ⟨rfl, rfl, rfl, rfl⟩
    · exact decide_eq_false (p := a < 1) c0
    · exact decide_eq_false (p := a > 3) c1
    · exact decide_eq_false (p := b < 0) c2
    · exact decide_eq_true (p := b > 10) c3
  obtain ⟨n, rfl⟩ : ∃ n : Nat, b = n := ⟨b.toNat, by omega⟩
  have h0 : 1 ≤ ν 0 ∧ ν 0 ≤ 3 := ⟨show 1 ≤ a by omega, show a ≤ 3 by omega⟩
  have hr := isSm_some (heads n (by omega))
  obtain ⟨R1, R2⟩ := recs_ok (R := Unit) (C := CF F0) (base := W.heap.size) (W := W) (ν := ν) mixed (C_holds (F0_ok h0)) rfl hnum (fun f p hp => prims2_ok (F0_ok h0) f p hp) 100000 200
  refine (callH_ok (ok := fun _ : Unit => True) (C := CF F0) mixed (C_holds (F0_ok h0)) rfl R1 R2 Tryz.func3 body_eq (by decide +kernel) (hd := hdH n) (k := Go.Eng.isTrue) (r := ()) trivial (args := [.sym .i64 (.var 0), .int .i64 (.ofNat n)]) (by simp) ?_ hr (repE _ W)
    (VRs_cons (by simp only [VR]; rfl) (VRs_cons (by simp only [VR]; rfl) VRs_nil))).mono fun e w' he => ?_
  · intro i y hm
    rw [holes_body] at hm
    simp only [List.mem_singleton, Prod.mk.injEq] at hm
    obtain ⟨rfl, rfl⟩ := hm
    intro fr σ k r a w ι hk hok hst H hf
    obtain ⟨g, hk⟩ := cond_some (show cond (fits1 fr (frL (.int .i64 (.ofNat n)) 0) && fitsSt (stL 0) (nxOf 0) σ) (k (.exit 0) (mkFr (frE n)) (mkSt (stL n) (nxOf n))) none = some r from hk)
    simp only [Bool.and_eq_true] at g
    exact loop (by omega) h0 rfl hok g hk H hf hst
  · obtain ⟨r', _, u', rfl, x, σ', ι', _, hrep, hx, hx2⟩ := he
    unfold Go.Eng.isTrue at hx2
    split at hx2
    · simp only [VR] at hx; subst hx; exact ⟨rfl, hrep.below⟩
    · cases hx2
end Go.Proofs.YthignahfnlgolaaGreatDoor.poolMost
