/- Every operation of the symbolic executor that does not write follows the model's. Conditions: none. -/
import Derived.Test.YthignahfnlgolaaGreatDoorEngPure4
namespace Go.Eng
section
variable {ν : Nat → Int} {base : Nat} {W w : World} {σ : St} {ι : Inj} {R : Type} {P : Program} {C : Cfg}

def NGood (P : Program) (ν : Nat → Int) (ι : Inj) (w : World) (s : Sem Next) (k : LV → Option R) (r : R) : Prop :=
  ∃ x u, k x = some r ∧ VR ν ι x u ∧ s.run P w = .ok (.value u) w
theorem PGood.next {s : Sem Value} {k : LV → Option R} {r : R} (h : PGood P ν ι w s k r) : NGood P ν ι w (do pure (.value (← s))) k r := by
  obtain ⟨x, u, h1, h2, h3⟩ := h
  exact ⟨x, u, h1, h2, by simp only [Sem.run_bind, h3, Result.andThen_ok]; rfl⟩
theorem fail_ne {o : PO} : CO.fail ≠ .p o := by intro h; cases h
theorem f_ne {o : PO} {e : EO} : CO.f e ≠ .p o := by intro h; cases h
theorem evs_map {loc : List LV} {fr : Fr} {env : Env} {ρ : Operand → Value} (HX : ∀ x, VR ν ι (ev loc fr (cX env x)) (ρ x)) : ∀ l : List Operand, VRs ν ι (evs loc fr (cXs env l)) (l.map ρ)
  | [] => VRs_nil
  | x :: r => VRs_cons (HX x) (evs_map HX r)
theorem rNil_ok {dst : Option Tmp} {ty : TypeId} {pos : String} {aft : Array Edge} {gd : Option (Nat × Bool)} {x : Operand} {ρ : Operand → Value} {a : LV} {k : LV → Option R} {r : R} (hx : VR ν ι a (ρ x)) (hk : rNil a k = some r) :
    NGood P ν ι w (execOp ρ ⟨dst, .nilCheck x, ty, pos, aft, gd⟩) k r := by
  have key : ∀ u, ρ x = u → (match u with | .pointer none | .nilIface | .nilFunc => False | .func (.method _) _ _ => False | _ => True) → (execOp ρ ⟨dst, .nilCheck x, ty, pos, aft, gd⟩).run P w = .ok (.value u) w := by
    intro u hu hm
    unfold execOp
    simp only [hu]
    split
    · exact hm.elim
    · exact hm.elim
    · exact hm.elim
    · exact hm.elim
    · rfl
  unfold rNil at hk
  split at hk
  · cases hk
  · cases hk
  · cases hk
  · cases hk
  · refine ⟨_, _, hk, hx, key _ rfl ?_⟩
    simp only [VR] at hx; obtain ⟨_, _, h, _⟩ := hx; rw [h]; trivial
  · cases hk
  · rename_i h1 h2 h3 h4 h5 h6
    refine ⟨_, _, hk, hx, key _ rfl ?_⟩
    cases a <;> simp only [VR] at hx
    case nilptr => exact (h1 rfl).elim
    case nilIface => exact (h2 rfl).elim
    case nilFunc => exact (h3 rfl).elim
    case bad => exact (h4 rfl).elim
    case func => exact (h6 _ _ _ rfl).elim
    all_goals
      first
        | (rw [hx]; trivial)
        | (obtain ⟨_, h, _⟩ := hx; rw [h]; trivial)
        | (obtain ⟨_, _, h⟩ := hx; rw [h]; trivial)
        | (obtain ⟨_, _, h, _⟩ := hx; rw [h]; trivial)
        | (obtain ⟨_, _, _, _, h, _⟩ := hx; rw [h]; trivial)
theorem rPick_ok {c a b : LV} {u v x : Value} {k : LV → Option R} {r : R} (hc : VR ν ι c u) (ha : VR ν ι a v) (hb : VR ν ι b x) (hk : rPick c a b k = some r) :
    NGood P ν ι w (do pure (.value (if ← asBool u then v else x))) k r := by
  unfold rPick at hk
  split at hk
  · simp only [VR] at hc; subst hc
    rename_i c
    cases c with
    | true => exact ⟨_, _, hk, ha, rfl⟩
    | false => exact ⟨_, _, hk, hb, rfl⟩
  · cases hk

theorem P_ok (H : Rep ν base W σ ι w) (hC : C.Holds ν) {loc : List LV} {fr : Fr} {env : Env} {ρ : Operand → Value} (HX : ∀ x, VR ν ι (ev loc fr (cX env x)) (ρ x)) {o : Oper} {p : PO} {k : LV → Option R} {r : R}
    (hc : cOp P env o.op = .p p) (hk : runP C loc fr σ k p = some r) : NGood P ν ι w (execOp ρ o) k r := by
  obtain ⟨dst, op, ty, pos, aft, gd⟩ := o
  simp only at hc
  cases op
  case move x => simp only [cOp] at hc; cases hc; exact ⟨_, _, hk, HX x, rfl⟩
  case assign x => simp only [cOp] at hc; cases hc; exact ⟨_, _, hk, HX x, rfl⟩
  case pick c a b => simp only [cOp] at hc; cases hc; exact rPick_ok (HX c) (HX a) (HX b) hk
  case load t a =>
    simp only [cOp, cLoad] at hc
    split at hc
    · rename_i h; cases hc; exact (rLoadN_ok H h (HX a) hk).next
    · rename_i h; cases hc; exact (rLoad1_ok H h (HX a) hk).next
    · cases hc
  case nilCheck x => simp only [cOp] at hc; cases hc; exact rNil_ok (HX x) hk
  case binOp op t x y ty' =>
    have heq : ∀ {q : Nat} {d : TypeDesc}, und P t = some d → fitsQ q d → cBin.cEq op q (cX env x) (cX env y) = .p p → NGood P ν ι w (execOp ρ ⟨dst, .binOp op t x y ty', ty, pos, aft, gd⟩) k r := by
      intro q d hd hq hc
      unfold cBin.cEq at hc
      split at hc
      · cases hc; exact (eqn_ok (neg := false) hd hq (HX x) (HX y) hk).next
      · cases hc; exact (eqn_ok (neg := true) hd hq (HX x) (HX y) hk).next
      · cases hc
    simp only [cOp, cBin] at hc
    split at hc
    · cases hc; exact (runBin_ok hC (HX x) (HX y) hk).next
    · cases hc; exact (runBin_ok hC (HX x) (HX y) hk).next
    · rename_i h; exact heq (q := 0) h trivial hc
    · rename_i h; exact heq (q := 1) h trivial hc
    · rename_i h; exact heq (q := 2) h trivial hc
    · rename_i h; exact heq (q := 3) h trivial hc
    · rename_i h; exact heq (q := 4) h trivial hc
    · rename_i fs h
      cases h2 : twoStr P t fs with
      | false => rw [h2] at hc; cases hc
      | true =>
        rw [h2, cond_true] at hc
        unfold cEqS at hc
        split at hc
        · cases hc; exact (eqS_ok (neg := false) h h2 (HX x) (HX y) hk).next
        · cases hc; exact (eqS_ok (neg := true) h h2 (HX x) (HX y) hk).next
        · cases hc
    · cases hc
  case unOp op t x => simp only [cOp] at hc; cases hc; exact (rUn_ok hC (HX x) hk).next
  case makeFunc fn a b =>
    cases fn <;> simp only [cOp] at hc <;> try (cases hc; done)
    cases hc
    refine ⟨_, .func (.func _) (a.map ρ) (b.map ρ), hk, ?_, rfl⟩
    simp only [VR]
    exact ⟨_, _, rfl, by simpa using evs_map HX a.toList, by simpa using evs_map HX b.toList⟩
  case fieldAddr t x f =>
    simp only [cOp, cFieldAddr] at hc
    split at hc
    · rename_i fs hd
      split at hc
      · rename_i g hg
        cases hz : Nat.beq (sizeOf P g.type) 0 with
        | true => rw [hz] at hc; cases hc
        | false =>
          rw [hz] at hc; cases hc
          exact (rFaddr_ok hd hg (fun q => by rw [q] at hz; cases hz) (HX x) hk).next
      · cases hc
    · cases hc
  case indexAddr t x i =>
    simp only [cOp, cIndexAddr] at hc
    split at hc
    · rename_i e hd
      cases hz : Nat.beq (sizeOf P e) 0 with
      | true => rw [hz] at hc; cases hc
      | false =>
        rw [hz] at hc; cases hc
        exact (rIaddr_ok hd (fun q => by rw [q] at hz; cases hz) (HX x) (HX i) hk).next
    · cases hc
  case index t x i =>
    simp only [cOp, cIndex] at hc
    split at hc
    · rename_i hd; cases hc; exact (rSindex_ok hd (HX x) (HX i) hk).next
    · cases hc
  case slice t x lo hi mx =>
    simp only [cOp, cSlice] at hc
    split at hc
    · rename_i hd
      split at hc
      · cases hc; exact (rSlcS_ok hd HX (HX x) hk).next
      · cases hc
    · rename_i e hd
      cases hz : (Nat.beq (sizeOf P e) 0 || (mx.isSome && hi.isNone)) with
      | true => rw [hz] at hc; cases hc
      | false =>
        rw [hz, cond_false] at hc; cases hc
        simp only [Bool.or_eq_false_iff] at hz
        refine (rSlc_ok H hd (fun q => by rw [q] at hz; cases hz.1) HX (HX x) (fun h q => ?_) hk).next
        subst q
        cases mx with
        | none => exact h rfl
        | some m => cases hz.2
    · cases hc
  case build t parts =>
    simp only [cOp] at hc
    have hc' := hc
    unfold cBuild at hc'
    split at hc'
    · rename_i fs z hd hz
      cases hall : fs.all (fun f => (P.info? f.type).isSome) with
      | false => rw [hall] at hc'; cases hc'
      | true =>
        rw [hall, cond_true] at hc'
        split at hc'
        · cases hc'; exact (build_ok HX hc hk).next
        · cases hc'
    · rename_i n e z hd hz
      cases hn : Nat.beq (sizeOf P e) 0 with
      | true => rw [hn] at hc'; cases hc'
      | false =>
        rw [hn, cond_false] at hc'
        split at hc'
        · cases hc'; exact (build_ok HX hc hk).next
        · cases hc'
    · cases hc'
  case lookup t m i ok =>
    simp only [cOp, cLookup] at hc
    split at hc
    · rename_i kt e hd
      split at hc
      · rename_i q z hq hz
        cases hc; exact (rLookup_ok H hC hd hq hz (HX m) (HX i) hk).next
      · cases hc
    · cases hc
  case extract x i => simp only [cOp] at hc; cases hc; exact (rExtract_ok (HX x) hk).next
  case entry x => simp only [cOp] at hc; cases hc; exact (rEntry_ok H (HX x) hk).next
  case convert s d x =>
    simp only [cOp, cConv] at hc
    split at hc
    · rename_i h1 h2; cases hc; exact (rConvI_ok hC h1 h2 (HX x) hk).next
    · rename_i h1 h2; cases hc; exact (rConvSS_ok h1 h2 (HX x) hk).next
    · rename_i h1 h2
      split at hc
      · rename_i h3; cases hc; exact (rConvS_ok H h1 h3 h2 (HX x) hk).next
      · cases hc
    · cases hc
  case call c =>
    obtain ⟨callee, args, ats⟩ := c
    simp only [cOp, cCall] at hc
    split at hc
    · rename_i b
      simp only [cBuiltin] at hc
      split at hc
      · rename_i x hargs
        split at hc
        · rename_i t ht
          have harr : args = #[x] := by apply Array.ext'; simpa using hargs
          subst harr
          have hrun : ∀ {k : LV → Option R}, PGood P ν ι w (Builtin.len_ ats ty #[ρ x]) k r → NGood P ν ι w (execOp ρ ⟨dst, .call ⟨.builtin .len, #[x], ats⟩, ty, pos, aft, gd⟩) k r := fun h => by
            have e : execOp ρ ⟨dst, .call ⟨.builtin .len, #[x], ats⟩, ty, pos, aft, gd⟩ = (do pure (.value (← Builtin.len_ ats ty #[ρ x]))) := by simp [execOp, resolve, invoke, builtin]
            rw [e]; exact h.next
          unfold cLen at hc
          split at hc
          · rename_i hd
            cases hc
            refine hrun (.of (u := goInt _) hk VR_int ?_)
            simp [Builtin.len_, ht, und_run hd, goInt]
          · rename_i a hd
            split at hc
            · rename_i hd2
              cases hc
              refine hrun (.of (u := goInt _) hk VR_int ?_)
              simp [Builtin.len_, ht, und_run hd, und_run hd2, goInt]
            · cases hc
          · rename_i hd; cases hc; exact hrun (rLen_ok H hd (.inl ⟨rfl, rfl⟩) ht (HX x) hk)
          · rename_i hd; cases hc; exact hrun (rLen_ok H hd (.inr (.inl ⟨rfl, _, rfl⟩)) ht (HX x) hk)
          · rename_i hd; cases hc; exact hrun (rLen_ok H hd (.inr (.inr ⟨rfl, _, _, rfl⟩)) ht (HX x) hk)
          · cases hc
        · cases hc
      · split at hc
        · simp only [cAppend] at hc
          split at hc
          · split at hc
            · rename_i z _
              revert hc
              cases (Nat.beq _ 0 || !(Nat.beq _ _) || Nat.blt _ _ || Option.isNone _) <;> (intro hc; cases hc)
            · cases hc
          · cases hc
        · cases hc
      · split at hc
        · split at hc
          · rename_i z _
            revert hc
            cases (Nat.beq _ 0) <;> (intro hc; cases hc)
          · cases hc
        · cases hc
      · split at hc
        · split at hc <;> cases hc
        · cases hc
      · rename_i x y hargs
        have harr : args = #[x, y] := by apply Array.ext'; simpa using hargs
        subst harr
        have e : execOp ρ ⟨dst, .call ⟨.builtin .max, #[x, y], ats⟩, ty, pos, aft, gd⟩ = (do pure (.value (← Builtin.max_ ats ty #[ρ x, ρ y]))) := by simp [execOp, resolve, invoke, builtin]
        rw [e]; cases hc
        exact (rMx_max (HX x) (HX y) hk).next
      · rename_i x y hargs
        have harr : args = #[x, y] := by apply Array.ext'; simpa using hargs
        subst harr
        have e : execOp ρ ⟨dst, .call ⟨.builtin .min, #[x, y], ats⟩, ty, pos, aft, gd⟩ = (do pure (.value (← Builtin.min_ ats ty #[ρ x, ρ y]))) := by simp [execOp, resolve, invoke, builtin]
        rw [e]; cases hc
        exact (rMx_min (HX x) (HX y) hk).next
      · cases hc
    · cases hc
    · cases hc
    · cases hc
  all_goals (simp only [cOp] at hc)
  case buildSlice t len parts =>
    simp only [cBuildS] at hc
    split at hc
    · split at hc
      · revert hc
        cases (Nat.beq _ 0 || !(Nat.beq _ _) || Nat.blt _ _)
        · intro hc
          simp only [cond_false] at hc
          split at hc <;> cases hc
        · intro hc; cases hc
      · cases hc
    · cases hc
  case alloc t => split at hc <;> cases hc
  case store t a x => split at hc <;> cases hc
  case makeMap t r => cases r <;> cases hc
  case mapUpdate t m k x => simp only [cMapset] at hc; split at hc <;> (try (split at hc)) <;> cases hc
  case insert t m k x => simp only [cMapset] at hc; split at hc <;> (try (split at hc)) <;> cases hc
  case range t x => split at hc <;> cases hc
  case next x b => cases b <;> cases hc
  all_goals cases hc
end
end Go.Eng
