/- The law PoolTicks: tick by tick; what each of its parts does, joined. Conditions: none. -/
import Derived.Test.YthignahfnlgolaaPoolTicksR
import Derived.Deep.LoopGhost
namespace Go.Proofs.Ythignahfnlgolaa.poolTicks
open Go.Eng
open Go.RowKit (Below)
set_option maxRecDepth 100000
theorem sameE_eq : ∀ {a b : List (LV × LV × Nat)}, sameE a b = true → a = b
  | [], [], _ => rfl
  | [], _ :: _, h => by cases h
  | _ :: _, [], h => by cases h
  | (x, v, n) :: r, (y, u, m) :: s, h => by
    simp only [sameE, Bool.and_eq_true, natBeq] at h
    obtain ⟨⟨⟨h1, h2⟩, h3⟩, h4⟩ := h
    rw [LV.beq_eq _ _ h1, LV.beq_eq _ _ h2, h3, sameE_eq h4]
theorem sameO_eq {a b : LO} (h : sameO a b = true) : a = b := by
  cases a <;> cases b <;> simp only [sameO] at h <;> try (cases h; done)
  · simp only [Bool.and_eq_true, natBeq] at h
    obtain ⟨⟨h1, h2⟩, h3⟩ := h
    rw [LV.beqs_eq _ _ h1, h2, h3]
  · simp only [Bool.and_eq_true, natBeq] at h
    rw [sameE_eq h.1, h.2]
theorem mkHp_mem : ∀ {S : List (Nat × LO)}, (∀ p ∈ S, p.1 ≤ 100000) → ∀ b o, (mkHp S).get b = some o → (b, o) ∈ S
  | [], _, b, o, h => by cases h
  | p :: S, hS, b, o, h => by
    have h : (Tr.set (mkHp S) p.1 (some p.2)).get b = some o := h
    rw [Tr.get_set _ _ _ _ (by have := hS p (List.mem_cons_self ..); omega)] at h
    by_cases e : b = p.1
    · rw [if_pos e] at h; cases h; rw [e]; exact List.mem_cons_self ..
    · rw [if_neg e] at h; exact List.mem_cons_of_mem _ (mkHp_mem (fun q hq => hS q (List.mem_cons_of_mem _ hq)) b o h)
theorem isSm_some {o : Option Unit} (h : isSm o = true) : o = some () := by cases o with | none => cases h | some u => rfl
def cutI (n : Nat) (ι : Inj) : Inj := fun b => if b < n then ι b else none
theorem den_subst {ν ν' : Nat → Int} {f : Nat → E} (hν : ∀ i, ν' i = E.den ν (f i)) : ∀ y : E, E.den ν (substE f y) = E.den ν' y
  | .var i => (hν i).symm
  | .lit _ => rfl
  | .bin o k a b => by simp only [substE, E.den, den_subst hν a, den_subst hν b]
  | .conv k a => by simp only [substE, E.den, den_subst hν a]
section
variable {ν ν' : Nat → Int} {base : Nat} {W w w' : World} {σ : St} {ι ι' : Inj} {f : Nat → E} {n : Nat}
theorem VR_mkS {k : IntKind} {y : E} {u : Value} (h : VR ν ι (mkS k y) u) : u = .int k (E.den ν y) := by
  cases y <;> simp only [mkS, VR] at h <;> exact h
theorem VR.re (hι : ∀ b, b < n → ι' b = ι b) (hν : ∀ i, ν' i = E.den ν (f i)) {v : LV} {u : Value} (hl : lowV n v = true) (h : VR ν ι (substV f v) u) : VR ν' ι' v u := by
  cases v <;> simp only [lowV] at hl <;> try (cases hl; done)
  case sym k y =>
    have := VR_mkS (show VR ν ι (mkS k (substE f y)) u from h)
    simp only [VR]
    rw [this, den_subst hν]
  case ptr b o => simp only [substV, VR, natBlt] at h hl ⊢; rw [hι b hl]; exact h
  case slice e b o len cap => simp only [substV, VR, natBlt] at h hl ⊢; rw [hι b hl]; exact h
  case map r => simp only [substV, VR, natBlt] at h hl ⊢; rw [hι r hl]; exact h
  all_goals (simp only [substV, VR] at h ⊢; try exact h)
theorem VRs.re (hι : ∀ b, b < n → ι' b = ι b) (hν : ∀ i, ν' i = E.den ν (f i)) : ∀ {vs : List LV} {us : List Value}, vs.all (lowV n) = true → VRs ν ι (vs.map (substV f)) us → VRs ν' ι' vs us
  | [], us, _, h => by simp only [List.map_nil, VRs] at h ⊢; exact h
  | v :: vs, us, hl, h => by
    simp only [List.all_cons, Bool.and_eq_true] at hl
    simp only [List.map_cons, VRs] at h ⊢
    obtain ⟨u, t, e, h1, h2⟩ := h
    exact ⟨u, t, e, VR.re hι hν hl.1 h1, VRs.re hι hν hl.2 h2⟩
theorem ERs.re (hι : ∀ b, b < n → ι' b = ι b) (hν : ∀ i, ν' i = E.den ν (f i)) : ∀ {es : List (LV × LV × Nat)} {ms : List MapEntry}, (es.all fun e => lowV n e.1 && lowV n e.2.1) = true → ERs ν ι (es.map fun e => (substV f e.1, substV f e.2.1, e.2.2)) ms → ERs ν' ι' es ms
  | [], ms, _, h => h
  | e :: es, ms, hl, h => by
    simp only [List.all_cons, Bool.and_eq_true] at hl
    obtain ⟨m, t, rfl, h1, h2, h3, h4⟩ := h
    exact ⟨m, t, rfl, VR.re hι hν hl.1.1 h1, VR.re hι hν hl.1.2 h2, h3, ERs.re hι hν hl.2 h4⟩
/-- a state seen anew, its symbols turned, what is not needed forgotten -/
theorem of_fitsRe {S : List (Nat × LO)} (H : Rep ν base W σ ι w) (hν : ∀ i, ν' i = E.den ν (f i)) (h : fitsRe f S n σ = true) : Rep ν' base W (mkSt S n) (cutI n ι) w := by
  unfold fitsRe at h
  simp only [Bool.and_eq_true, List.all_eq_true, natBle, natBlt] at h
  obtain ⟨hn, h2⟩ := h
  have hcut : ∀ b, b < n → cutI n ι b = ι b := fun b hb => by unfold cutI; rw [if_pos hb]
  have hg : ∀ b o, (mkHp S).get b = some o → b < n ∧ lowO n o = true ∧ σ.hp.get b = some (substO f o) := by
    intro b o hb
    have hm := mkHp_mem (fun p hp => by have := (h2 p hp).1.1; omega) b o hb
    obtain ⟨⟨h3, h4⟩, h5⟩ := h2 _ hm
    simp only at h3 h4 h5
    split at h5
    · rename_i o' ho'
      rw [sameO_eq h5]; exact ⟨h3, h4, ho'⟩
    · cases h5
  have hfrom : ∀ b B, cutI n ι b = some B → b < n ∧ ι b = some B := by
    intro b B hb
    unfold cutI at hb
    split at hb
    · exact ⟨by assumption, hb⟩
    · cases hb
  refine ⟨H.below, H.hbase, ?_, fun b B hb => (hfrom b B hb).1, fun b B hb => H.blk b B (hfrom b B hb).2, ?_, ?_, ?_⟩
  · intro b o hb
    obtain ⟨g1, g2, g3⟩ := hg b o hb
    have := H.obj b _ g3
    cases o with
    | cells cs c s =>
      obtain ⟨B, arr, e, fz, a1, a2, a3, a4, a5, a6, a7, a8⟩ := this
      simp only [lowO, Bool.and_eq_true] at g2
      rw [List.length_map] at a4 a6
      exact ⟨B, arr, e, fz, by rw [hcut b g1]; exact a1, a2, a3, a4, a5, VRs.re hcut hν g2.1.1 a6, g2.2, a8⟩
    | map es c =>
      obtain ⟨B, ms, a1, a2, a3, a4, a5⟩ := this
      exact ⟨B, ms, by rw [hcut b g1]; exact a1, a2, a3, ERs.re hcut hν g2 a4, fun e he => a5 (substV f e.1, substV f e.2.1, e.2.2) (List.mem_map.2 ⟨e, he, rfl⟩)⟩
    | mit => cases g2
  · intro b cs c s hb
    obtain ⟨_, g2, _⟩ := hg b _ hb
    simp only [lowO, Bool.and_eq_true, natBlt] at g2
    exact g2.1.2
  · intro b b' o o' B B' hne hb hb' hB hB' heq
    have := H.apart b b' _ _ B B' hne (hg b o hb).2.2 (hg b' o' hb').2.2 (hfrom b B hB).2 (hfrom b' B' hB').2 heq
    cases o <;> cases o' <;> exact this
  · show n ≤ 500000001; omega
theorem stepCut (h : Step ι w ι' w') (hι : ∀ b B, ι b = some B → b < n) : Step ι w (cutI n ι') w' := by
  refine ⟨fun b B hb => ?_, h.size, fun b B hb hn => ?_, h.old⟩
  · unfold cutI; rw [if_pos (hι b B hb)]; exact h.le b B hb
  · unfold cutI at hb
    split at hb
    · exact h.new b B hb hn
    · cases hb
theorem of_frRe {l : AS} {fr : Fr} {a : Act} {mask nt : Nat} (hf : FrOk ν ι mask nt fr a) (hν : ∀ i, ν' i = E.den ν (f i)) (h : frRe f l n fr = true) : ∀ p ∈ l, VR ν' (cutI n ι) p.2 (a.tmps.getD p.1 undef) := by
  intro p hp
  unfold frRe at h
  rw [List.all_eq_true] at h
  have h1 := h p hp
  simp only [Bool.and_eq_true] at h1
  refine VR.re (n := n) (fun b hb => by unfold cutI; rw [if_pos hb]) hν h1.1 ?_
  rw [LV.beq_eq _ _ h1.2]
  exact HX_of (env := []) (loc := []) hf (fun t i h => by cases h) (.tmp p.1)
end
/-! ## the ticks -/
def sOf (e j : Nat) : Nat := if j ≤ e then j - 1 else j - e - 1
def νT (e w j : Nat) : Nat → Int := fun i => if i = 0 then e else if i = 1 then w else if i = 2 then j else if i = 3 then (sOf e j : Int) else 0
noncomputable def stO (n e j : Nat) : List (Nat × LO) := if j ≤ e then sA n else sB n
theorem turn {e w j : Nat} (he : e ≤ 10) (hw : w ≤ 10) (hj : j ≤ e + w) {f : Nat → E} (h2 : f 2 = e21) (hx : ∀ i, i ≠ 2 → i ≠ 3 → f i = .var i) (h3 : E.den (νT e w j) (f 3) = (sOf e (j + 1) : Int)) : ∀ i, νT e w (j + 1) i = E.den (νT e w j) (f i) := by
  intro i
  by_cases c2 : i = 2
  · subst c2
    rw [h2]
    show ((j + 1 : Nat) : Int) = IntKind.wrap .i64 ((j : Int) + 1)
    rw [wrap_in _ (by omega) (by omega)]; rfl
  by_cases c3 : i = 3
  · subst c3; rw [h3]; rfl
  rw [hx i c2 c3]
  show νT e w (j + 1) i = νT e w j i
  unfold νT
  by_cases c0 : i = 0
  · rw [if_pos c0, if_pos c0]
  by_cases c1 : i = 1
  · rw [if_neg c0, if_neg c0, if_pos c1, if_pos c1]
  · rw [if_neg c0, if_neg c1, if_neg c2, if_neg c3, if_neg c0, if_neg c1, if_neg c2, if_neg c3]
theorem fS_var : ∀ i, i ≠ 2 → i ≠ 3 → fS i = .var i := fun i h2 h3 => by unfold fS; split <;> first | rfl | contradiction
theorem fB_var : ∀ i, i ≠ 2 → i ≠ 3 → fB i = .var i := fun i h2 h3 => by unfold fB; split <;> first | rfl | contradiction
theorem fH_var : ∀ i, i ≠ 2 → i ≠ 3 → fH i = .var i := fun i h2 h3 => by unfold fH; split <;> first | rfl | contradiction
theorem den01 (e w j : Nat) (he : e ≤ 10) (hw : w ≤ 10) : E.den (νT e w j) e01 = ((e + w : Nat) : Int) := by
  show IntKind.wrap .i64 ((e : Int) + w) = _
  rw [wrap_in _ (by omega) (by omega)]; rfl
theorem den31 (e w j : Nat) (he : e ≤ 10) (hw : w ≤ 10) (hj : j ≤ e + w) : E.den (νT e w j) e31 = ((sOf e j + 1 : Nat) : Int) := by
  show IntKind.wrap .i64 ((sOf e j : Int) + 1) = _
  have : sOf e j ≤ 20 := by unfold sOf; split <;> omega
  rw [wrap_in _ (by omega) (by omega)]; rfl
section
variable {base : Nat} {W : World}
theorem per {p : Nat → Prop} {n : Nat} (hn : n = 1 ∨ n = 2 ∨ n = 3) (h1 : p 1) (h2 : p 2) (h3 : p 3) : p n := by
  rcases hn with rfl | rfl | rfl
  · exact h1
  · exact h2
  · exact h3
theorem prims_ok {ν : Nat → Int} : ∀ f p, prims2 f = some p → PrimOk Try.prog ν base W f p := fun f p hp => prims2_ok f p hp
theorem CF_ok {ν : Nat → Int} {l : FL} (h : Facts ν l) : (CF l).Holds ν := ⟨h, fun _ _ h => by cases h⟩
theorem loop {n : Nat} (hn : n = 1 ∨ n = 2 ∨ n = 3) {e w : Nat} (he : 1 ≤ e ∧ e ≤ 10) (hw : 1 ≤ w ∧ w ≤ 10) {R : Type} {ok : R → Prop} {fr : Fr} {σ : St} {k : ExK R} {r : R} {a : Act} {ι : Inj} {wd : World} (hok : ok r) (hnx : nxO n = σ.nx) (hfr : frRe fH (frT n) (nxO n) fr = true)
    (hst : fitsRe fH (sA n) (nxO n) σ = true) (hk : k (.exit 2) (mkFr (frT n)) (mkSt (sB n) (nxO n)) = some r) (H : Rep (νT e w (e + w)) base W σ ι wd) (hf : FrOk (νT e w (e + w)) ι M Try.f5.ntmps fr a) :
    (Code.loop x).wp Try.prog (ExQs (νT e w (e + w)) base W M Try.f5.ntmps ok ι wd k) a wd := by
  have keys : keysOk M (frT n) = true := per (p := fun n => keysOk M (frT n) = true) hn tK1 tK2 tK3
  have hι : ∀ b B, ι b = some B → b < nxO n := fun b B hb => by rw [hnx]; exact H.fresh b B hb
  have hν0 : ∀ i, νT e w 1 i = E.den (νT e w (e + w)) (fH i) := by
    intro i
    by_cases c2 : i = 2
    · subst c2; rfl
    by_cases c3 : i = 3
    · subst c3
      show (sOf e 1 : Int) = 0
      unfold sOf; rw [if_pos he.1]; rfl
    rw [fH_var i c2 c3]
    show νT e w 1 i = νT e w (e + w) i
    unfold νT
    by_cases c0 : i = 0
    · rw [if_pos c0, if_pos c0]
    by_cases c1 : i = 1
    · rw [if_neg c0, if_neg c0, if_pos c1, if_pos c1]
    · rw [if_neg c0, if_neg c1, if_neg c2, if_neg c3, if_neg c0, if_neg c1, if_neg c2, if_neg c3]
  let I : Nat → Act → World → Prop := fun m a' w' => ∃ j ι', j + m = e + w ∧ 1 ≤ j ∧ Step ι wd ι' w' ∧ Rep (νT e w j) base W (mkSt (stO n e j) (nxO n)) ι' w' ∧ a'.defers = [] ∧ Try.f5.ntmps ≤ a'.tmps.size ∧ ∀ p ∈ frT n, VR (νT e w j) ι' p.2 (a'.tmps.getD p.1 undef)
  refine wp_loop_ghost I (e + w - 1) ⟨1, cutI (nxO n) ι, by omega, Nat.le_refl _, stepCut (Step.refl ι wd) hι, ?_, hf.defers, hf.size, of_frRe hf hν0 hfr⟩ ?_
  · have : stO n e 1 = sA n := if_pos he.1
    rw [this]
    exact of_fitsRe H hν0 hst
  rintro m a1 w1 ⟨j, ι1, hjm, hj1, S1, H1, d1, s1, v1⟩
  by_cases hj : j < e + w
  · obtain ⟨l, f, hC, ht, hν⟩ : ∃ l f, Facts (νT e w j) l ∧ tick l n (stO n e j) (kT n f (stO n e (j + 1))) = true ∧ ∀ i, νT e w (j + 1) i = E.den (νT e w j) (f i) := by
      have c01 := den01 e w j he.2 hw.2
      have c31 := den31 e w j he.2 hw.2 (by omega)
      have lt : semC .lss (E.den (νT e w j) (.var 2)) (E.den (νT e w j) e01) = true := by
        rw [c01]; exact decide_eq_true (show (j : Int) < ((e + w : Nat) : Int) by omega)
      by_cases q : j < e
      · have q1 : stO n e j = sA n := if_pos (by omega)
        have q2 : stO n e (j + 1) = sA n := if_pos (by omega)
        have qs : sOf e j = j - 1 := if_pos (by omega)
        have qs2 : sOf e (j + 1) = j := by unfold sOf; rw [if_pos (by omega)]; omega
        refine ⟨fAA, fS, ?_, by rw [q1, q2]; exact per (p := fun n => tick fAA n (sA n) (kT n fS (sA n)) = true) hn tAA1 tAA2 tAA3, turn he.2 hw.2 (by omega) rfl fS_var (by show E.den _ e31 = _; rw [c31, qs, qs2]; congr 1; omega)⟩
        intro op a b r hm
        simp only [fAA, List.mem_cons, List.not_mem_nil, or_false, Prod.mk.injEq] at hm
        rcases hm with ⟨rfl, rfl, rfl, rfl⟩ | ⟨rfl, rfl, rfl, rfl⟩
        · exact lt
        · rw [c31, qs]; exact decide_eq_true (show ((j - 1 + 1 : Nat) : Int) < (e : Int) by omega)
      by_cases q' : j = e
      · have q1 : stO n e j = sA n := if_pos (by omega)
        have q2 : stO n e (j + 1) = sB n := if_neg (by omega)
        have qs : sOf e j = j - 1 := if_pos (by omega)
        have qs2 : sOf e (j + 1) = 0 := by unfold sOf; rw [if_neg (by omega)]; omega
        refine ⟨fAB, fB, ?_, by rw [q1, q2]; exact per (p := fun n => tick fAB n (sA n) (kT n fB (sB n)) = true) hn tAB1 tAB2 tAB3, turn he.2 hw.2 (by omega) rfl fB_var (by rw [qs2]; rfl)⟩
        intro op a b r hm
        simp only [fAB, List.mem_cons, List.not_mem_nil, or_false, Prod.mk.injEq] at hm
        rcases hm with ⟨rfl, rfl, rfl, rfl⟩ | ⟨rfl, rfl, rfl, rfl⟩
        · exact lt
        · rw [c31, qs]; exact decide_eq_false (show ¬ ((j - 1 + 1 : Nat) : Int) < (e : Int) by omega)
      · have q1 : stO n e j = sB n := if_neg (by omega)
        have q2 : stO n e (j + 1) = sB n := if_neg (by omega)
        have qs : sOf e j = j - e - 1 := if_neg (by omega)
        have qs2 : sOf e (j + 1) = j - e := by unfold sOf; rw [if_neg (by omega)]; omega
        refine ⟨fBB, fS, ?_, by rw [q1, q2]; exact per (p := fun n => tick fBB n (sB n) (kT n fS (sB n)) = true) hn tBB1 tBB2 tBB3, turn he.2 hw.2 (by omega) rfl fS_var (by show E.den _ e31 = _; rw [c31, qs, qs2]; congr 1; omega)⟩
        intro op a b r hm
        simp only [fBB, List.mem_cons, List.not_mem_nil, or_false, Prod.mk.injEq] at hm
        rcases hm with ⟨rfl, rfl, rfl, rfl⟩ | ⟨rfl, rfl, rfl, rfl⟩
        · exact lt
        · rw [c31, qs]; exact decide_eq_false (show ¬ ((j - e - 1 + 1 : Nat) : Int) ≥ (w : Int) by omega)
    obtain ⟨R1, R2⟩ := recs_ok (R := Unit) (C := CF l) (base := base) (W := W) (ν := νT e w j) mixed (CF_ok hC) rfl hnum prims_ok 100000 200
    refine wp_mono (runH_ok (ι0 := ι1) (w0 := w1) mixed (CF_ok hC) rfl R1 R2 (by decide +kernel) (ok := fun _ => True) x _ _ _ () a1 w1 ι1 (fun i x _ fr σ k r a w ι h => by cases h) (isSm_some ht) trivial (.refl _ _) H1 (mkFr_ok keys d1 s1 v1)) ?_
    rintro ex a' w' ⟨r', _, o, fr', σ', ι', rfl, f1, f2, f3, f4⟩
    cases o with
    | ret => cases f4
    | exit id => cases f4
    | normal =>
      obtain ⟨g, _⟩ := cond_some (show cond (frRe f (frT n) (nxO n) fr' && fitsRe f (stO n e (j + 1)) (nxO n) σ') (some ()) none = some r' from f4)
      simp only [Bool.and_eq_true] at g
      exact ⟨m - 1, by omega, j + 1, cutI (nxO n) ι', by omega, by omega, stepCut (S1.trans f1) hι, of_fitsRe f2 hν g.2, f3.defers, f3.size, of_frRe f3 hν g.1⟩
  · obtain rfl : j = e + w := by omega
    have q1 : stO n e (e + w) = sB n := if_neg (by omega)
    rw [q1] at H1
    have ht : tick fX n (sB n) (kX n) = true := per (p := fun n => tick fX n (sB n) (kX n) = true) hn tX1 tX2 tX3
    have hC : Facts (νT e w (e + w)) fX := by
      intro op a b r hm
      simp only [fX, List.mem_cons, List.not_mem_nil, or_false, Prod.mk.injEq] at hm
      obtain ⟨rfl, rfl, rfl, rfl⟩ := hm
      rw [den01 e w _ he.2 hw.2]
      exact decide_eq_false (show ¬ ((e + w : Nat) : Int) < ((e + w : Nat) : Int) by omega)
    obtain ⟨R1, R2⟩ := recs_ok (R := Unit) (C := CF fX) (base := base) (W := W) (ν := νT e w (e + w)) mixed (CF_ok hC) rfl hnum prims_ok 100000 200
    refine wp_mono (runH_ok (ι0 := ι1) (w0 := w1) mixed (CF_ok hC) rfl R1 R2 (by decide +kernel) (ok := fun _ => True) x _ _ _ () a1 w1 ι1 (fun i x _ fr σ k r a w ι h => by cases h) (isSm_some ht) trivial (.refl _ _) H1 (mkFr_ok keys d1 s1 v1)) ?_
    rintro ex a' w' ⟨r', _, o, fr', σ', ι', rfl, f1, f2, f3, f4⟩
    cases o with
    | normal => cases f4
    | ret => cases f4
    | exit id =>
      obtain ⟨g, _⟩ := cond_some (show cond (Nat.beq id 2 && frRe fI (frT n) (nxO n) fr' && fitsRe fI (sB n) (nxO n) σ') (some ()) none = some r' from f4)
      simp only [Bool.and_eq_true, natBeq] at g
      obtain ⟨⟨rfl, g1⟩, g2⟩ := g
      exact ⟨r, hok, .exit 2, mkFr (frT n), mkSt (sB n) (nxO n), cutI (nxO n) ι', rfl, stepCut (S1.trans f1) hι, of_fitsRe f2 (fun _ => rfl) g2, mkFr_ok keys f3.defers f3.size (of_frRe f3 (fun _ => rfl) g1), hk⟩
theorem inside {n : Nat} (hn : n = 1 ∨ n = 2 ∨ n = 3) {e w : Nat} (he : 1 ≤ e ∧ e ≤ 10) (hw : 1 ≤ w ∧ w ≤ 10) : Calls Try.prog 5 #[.int .i64 (n : Int), .int .i64 (e : Int), .int .i64 (w : Int)] W fun ex W' => ex = .returned (.bool true) ∧ Below W.heap.size W W' := by
  have hr : headT n = true := per (p := fun n => headT n = true) hn tH1 tH2 tH3
  have hr := isSm_some hr
  have hC : Facts (νT e w (e + w)) fF := by
    have c31 := den31 e w (e + w) he.2 hw.2 (Nat.le_refl _)
    have qs : sOf e (e + w) = w - 1 := by unfold sOf; rw [if_neg (by omega)]; omega
    intro op a b r hm
    simp only [fF, List.mem_cons, List.not_mem_nil, or_false, Prod.mk.injEq] at hm
    rcases hm with ⟨rfl, rfl, rfl, rfl⟩ | ⟨rfl, rfl, rfl, rfl⟩ | ⟨rfl, rfl, rfl, rfl⟩ | ⟨rfl, rfl, rfl, rfl⟩ | ⟨rfl, rfl, rfl, rfl⟩
    · exact decide_eq_false (show ¬ (e : Int) < 1 by omega)
    · exact decide_eq_false (show ¬ (e : Int) > 10 by omega)
    · exact decide_eq_false (show ¬ (w : Int) < 1 by omega)
    · exact decide_eq_false (show ¬ (w : Int) > 10 by omega)
    · rw [c31, qs]; exact decide_eq_true (show ((w - 1 + 1 : Nat) : Int) ≥ (w : Int) by omega)
  obtain ⟨R1, R2⟩ := recs_ok (R := Unit) (C := CF fF) (base := W.heap.size) (W := W) (ν := νT e w (e + w)) mixed (CF_ok hC) rfl hnum prims_ok 100000 200
  refine (callH_ok (ok := fun _ : Unit => True) (C := CF fF) mixed (CF_ok hC) rfl R1 R2 Try.func5 body_eq (by decide +kernel) (hd := hdT n) (k := Go.Eng.isTrue) (r := ()) trivial (args := [.int .i64 (.ofNat n), .sym .i64 (.var 0), .sym .i64 (.var 1)]) (by simp) ?_ hr (repE _ W)
    (VRs_cons (by simp only [VR]; rfl) (VRs_cons (by simp only [VR]; rfl) (VRs_cons (by simp only [VR]; rfl) VRs_nil)))).mono fun ex w' he' => ?_
  · intro i y hm
    rw [holes_body] at hm
    simp only [List.mem_singleton, Prod.mk.injEq] at hm
    obtain ⟨rfl, rfl⟩ := hm
    intro fr σ k r a wd ι hk hok _ H hf
    obtain ⟨g, hk⟩ := cond_some (show cond (Nat.beq (nxO n) σ.nx && frRe fH (frT n) (nxO n) fr && fitsRe fH (sA n) (nxO n) σ) (k (.exit 2) (mkFr (frT n)) (mkSt (sB n) (nxO n))) none = some r from hk)
    simp only [Bool.and_eq_true, natBeq] at g
    exact loop hn he hw hok g.1.1 g.1.2 g.2 hk H hf
  · obtain ⟨r', _, u', rfl, x, σ', ι', _, hrep, hx, hx2⟩ := he'
    unfold Go.Eng.isTrue at hx2
    split at hx2
    · simp only [VR] at hx; subst hx; exact ⟨rfl, hrep.below⟩
    · cases hx2
end
end Go.Proofs.Ythignahfnlgolaa.poolTicks
