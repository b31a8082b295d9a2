/- Every operation of the symbolic executor follows the model's. Conditions: none. -/
import Derived.Test.YthignahfnlgolaaGreatDoorEngA3
namespace Go.Eng
section
variable {ν : Nat → Int} {base : Nat} {W w : World} {σ : St} {ι : Inj} {R : Type} {P : Program} {C : Cfg}

/-- a way to carry calls out follows the model: what is called has a body -/
def CallOk0 (P : Program) (ν : Nat → Int) (base : Nat) (W : World) (c : CallK R) : Prop :=
  ∀ (f : Nat) (args : List LV) (σ : St) (k : K R) (r : R) (ι : Inj) (w : World) (vs : Array Value), c f args σ k = some r → Rep ν base W σ ι w → VRs ν ι args vs.toList →
    (∃ fn, P.funcs[f]? = some fn ∧ (fn.name == "runtime.NumGoroutine") = false ∧ fn.body.isNone = false) ∧
    Calls P f vs w (fun e w'' => ∃ u, e = .returned u ∧ Post ν base W ι w k r u w'')
/-- a way to carry calls out follows the model -/
def CallOk (P : Program) (ν : Nat → Int) (base : Nat) (W : World) (c : CallK R) : Prop :=
  ∀ (f : Nat) (args : List LV) (σ : St) (k : K R) (r : R) (ι : Inj) (w : World) (vs : Array Value), c f args σ k = some r → Rep ν base W σ ι w → VRs ν ι args vs.toList →
    ERes P ν base W ι w k r ((callFunc f vs).run P w)
theorem callFunc_run {f : Nat} {fn : Func} (hf : P.funcs[f]? = some fn) (hn : (fn.name == "runtime.NumGoroutine") = false) (hb : fn.body.isNone = false) (vs : Array Value) :
    (callFunc f vs).run P w = .ok (.enter f vs) w := by
  simp only [callFunc, Sem.run_bind, run_program, Result.andThen_ok, hf, hn, hb, Bool.false_eq_true, if_false, Sem.run_pure]
theorem ERes_of_calls {f : Nat} {vs : Array Value} {k : K R} {r : R} (h : (∃ fn, P.funcs[f]? = some fn ∧ (fn.name == "runtime.NumGoroutine") = false ∧ fn.body.isNone = false) ∧ Calls P f vs w (fun e w'' => ∃ u, e = .returned u ∧ Post ν base W ι w k r u w'')) :
    ERes P ν base W ι w k r ((callFunc f vs).run P w) := by
  obtain ⟨⟨fn, h1, h2, h3⟩, h4⟩ := h
  rw [callFunc_run h1 h2 h3]
  exact h4
theorem CallOk0.ok {c : CallK R} (h : CallOk0 P ν base W c) : CallOk P ν base W c := fun f args σ k r ι w vs hk H hv => ERes_of_calls (h f args σ k r ι w vs hk H hv)
theorem calls_res {rec : CallK R} (hrec : CallOk P ν base W rec) (H : Rep ν base W σ ι w) {f : Nat} {args : List LV} {vs : Array Value} (hv : VRs ν ι args vs.toList) {k : K R} {r : R} (hk : rec f args σ k = some r) :
    ERes P ν base W ι w k r ((callFunc f vs).run P w) := hrec f args σ k r ι w vs hk H hv
theorem pf_ne {o : PO} {e : EO} : CO.p o ≠ .f e := by intro h; cases h
theorem E_buildSlice (H : Rep ν base W σ ι w) {rec : CallK R} {loc : List LV} {fr : Fr} {env : Env} {ρ : Operand → Value} (HX : ∀ x, VR ν ι (ev loc fr (cX env x)) (ρ x))
    {dst : Option Tmp} {ty : TypeId} {pos : String} {aft : Array Edge} {gd : Option (Nat × Bool)} {t len : Nat} {parts : Array (Nat × Operand)} {p : EO} {k : K R} {r : R} (hc : cOp P env (.buildSlice t len parts) = .f p) (hk : runE C rec loc fr σ k p = some r) :
    ERes P ν base W ι w k r ((execOp ρ ⟨dst, .buildSlice t len parts, ty, pos, aft, gd⟩).run P w) := by
  have e1 : execOp ρ ⟨dst, .buildSlice t len parts, ty, pos, aft, gd⟩ = (do pure (.value (← Instr.buildSlice t len (parts.map fun (i, x) => (i, ρ x))))) := rfl
  rw [e1]
  apply VGood.res
  simp only [cOp, cBuildS] at hc
  split at hc
  · rename_i e hd
    split at hc
    · rename_i z hz
      cases hb : (Nat.beq (sizeOf P e) 0 || !(Nat.beq z.cells.length (sizeOf P e)) || Nat.blt 16777216 (len * sizeOf P e)) with
      | true => rw [hb] at hc; cases hc
      | false =>
        rw [hb, cond_false] at hc
        simp only [Bool.or_eq_false_iff, Bool.not_eq_false'] at hb
        obtain ⟨⟨b1, b2⟩, b3⟩ := hb
        split at hc
        · rename_i l hl
          cases hc
          have hk' : fillP loc fr (fun l => newRow σ l fun b σ => k (.slice (sizeOf P e) b 0 len (some len)) σ) l (rep z.cells len) = some r := hk
          refine mkslice_ok H HX hd hz (fun q => by rw [q] at b1; cases b1) (natBeq.1 b2) ?_ hl hk'
          rcases Nat.lt_or_ge 16777216 (len * sizeOf P e) with q | q
          · rw [natBlt.2 q] at b3; cases b3
          · exact q
        · cases hc
    · cases hc
  · cases hc
theorem E_call (H : Rep ν base W σ ι w) (hC : C.Holds ν) {rec : CallK R} (hrec : CallOk P ν base W (callF C rec)) {loc : List LV} {fr : Fr} {env : Env} {ρ : Operand → Value} (HX : ∀ x, VR ν ι (ev loc fr (cX env x)) (ρ x))
    (hρ : ∀ f, ρ (.func f) = .func (.func f) #[] #[]) {dst : Option Tmp} {ty : TypeId} {pos : String} {aft : Array Edge} {gd : Option (Nat × Bool)} {c : Call} {p : EO} {k : K R} {r : R} (hc : cOp P env (.call c) = .f p) (hk : runE C rec loc fr σ k p = some r) :
    ERes P ν base W ι w k r ((execOp ρ ⟨dst, .call c, ty, pos, aft, gd⟩).run P w) := by
  obtain ⟨callee, args, ats⟩ := c
  simp only [cOp, cCall] at hc
  split at hc
  · rename_i b
    have hbi : ∀ {xs : List Operand}, args.toList = xs → ∃ cs, (execOp ρ ⟨dst, .call ⟨.builtin b, args, ats⟩, ty, pos, aft, gd⟩) = builtin b ats ty cs (xs.map ρ).toArray := by
      intro xs hx
      have e1 : args = xs.toArray := by apply Array.ext'; simpa using hx
      subst e1
      exact ⟨_, by simp [execOp, resolve, invoke]; rfl⟩
    simp only [cBuiltin] at hc
    split at hc
    · rename_i x hargs
      split at hc
      · unfold cLen at hc
        split at hc
        · cases hc
        · split at hc <;> cases hc
        · cases hc
        · cases hc
        · cases hc
        · cases hc
      · cases hc
    · rename_i s x hargs
      obtain ⟨cs, hcs⟩ := hbi hargs
      rw [hcs]
      split at hc
      · rename_i t u ht hu
        simp only [cAppend] at hc
        split at hc
        · rename_i e hd
          split at hc
          · rename_i z hz
            cases hb : (Nat.beq (sizeOf P e) 0 || !(Nat.beq z.cells.length (sizeOf P e)) || Nat.blt 65536 (bytesOf P e) || (und P u).isNone) with
            | true => rw [hb] at hc; cases hc
            | false =>
              rw [hb, cond_false] at hc
              cases hc
              simp only [Bool.or_eq_false_iff, Bool.not_eq_false'] at hb
              obtain ⟨⟨⟨b1, b2⟩, b3⟩, b4⟩ := hb
              obtain ⟨du, hdu⟩ : ∃ du, und P u = some du := by
                cases q : und P u with
                | none => rw [q] at b4; cases b4
                | some du => exact ⟨du, rfl⟩
              refine VGood.res (s := Builtin.append_ ats ty #[ρ s, ρ x]) (rAppend_ok H ht hu hd hdu (fun q => by rw [q] at b1; cases b1) hz (natBeq.1 b2) ?_ (HX s) (HX x) hk)
              rcases Nat.lt_or_ge 65536 (bytesOf P e) with q | q
              · rw [natBlt.2 q] at b3; cases b3
              · exact q
          · cases hc
        · cases hc
      · cases hc
    · rename_i x hargs
      obtain ⟨cs, hcs⟩ := hbi hargs
      rw [hcs]
      split at hc
      · rename_i e hd
        obtain ⟨t, ht, hd⟩ : ∃ t, ats[0]? = some t ∧ und P t = some (.slice e) := by
          cases q : ats[0]? with
          | none => rw [q] at hd; cases hd
          | some t => rw [q] at hd; exact ⟨t, rfl, hd⟩
        split at hc
        · rename_i z hz
          cases hb : Nat.beq z.cells.length 0 with
          | true => rw [hb] at hc; cases hc
          | false =>
            rw [hb, cond_false] at hc
            cases hc
            exact VGood.res (s := Builtin.clear_ ats ty #[ρ x]) (rClear_ok H hd hz ht (HX x) hk)
        · cases hc
      · cases hc
    · rename_i m kx hargs
      obtain ⟨cs, hcs⟩ := hbi hargs
      rw [hcs]
      split at hc
      · rename_i kt e hd
        obtain ⟨t, ht, hd⟩ : ∃ t, ats[0]? = some t ∧ und P t = some (.map kt e) := by
          cases q : ats[0]? with
          | none => rw [q] at hd; cases hd
          | some t => rw [q] at hd; exact ⟨t, rfl, hd⟩
        split at hc
        · rename_i q hq
          cases hc
          exact VGood.res (s := Builtin.delete_ ats ty #[ρ m, ρ kx]) (rDel_ok H hC hd hq ht (HX m) (HX kx) hk)
        · cases hc
      · cases hc
    · cases hc
    · cases hc
    · cases hc
  · rename_i f
    cases hc
    have e1 : (execOp ρ ⟨dst, .call ⟨.value (.func f), args, ats⟩, ty, pos, aft, gd⟩) = callFunc f (args.map ρ) := by
      simp [execOp, resolve, Deferred.ofValue, hρ, invoke]
    rw [e1]
    exact calls_res hrec H (by simpa using evs_map HX args.toList) hk
  · rename_i x _
    cases hc
    simp only [runE, rCallv] at hk
    split at hk
    · rename_i f a b hev
      have hx := HX x
      rw [hev] at hx
      simp only [VR] at hx
      obtain ⟨as, bs, hx, ha, hb⟩ := hx
      have e1 : (execOp ρ ⟨dst, .call ⟨.value x, args, ats⟩, ty, pos, aft, gd⟩) = callFunc f (as ++ args.map ρ ++ bs) := by
        simp [execOp, resolve, Deferred.ofValue, hx, invoke]
      rw [e1]
      refine calls_res hrec H ?_ hk
      rw [app_eq, app_eq]
      simp only [Array.toList_append, List.append_assoc]
      exact ha.append ((by simpa using evs_map HX args.toList : VRs ν ι _ _).append hb)
    · cases hk
  · cases hc
theorem E_ok (H : Rep ν base W σ ι w) (hC : C.Holds ν) (hP : C.P = P) {rec : CallK R} (hrec : CallOk P ν base W (callF C rec)) {loc : List LV} {fr : Fr} {env : Env} {ρ : Operand → Value} (HX : ∀ x, VR ν ι (ev loc fr (cX env x)) (ρ x))
    (hρ : ∀ f, ρ (.func f) = .func (.func f) #[] #[]) {o : Oper} {p : EO} {k : K R} {r : R} (hc : cOp P env o.op = .f p) (hk : runE C rec loc fr σ k p = some r) : ERes P ν base W ι w k r ((execOp ρ o).run P w) := by
  obtain ⟨dst, op, ty, pos, aft, gd⟩ := o
  simp only at hc
  cases op
  case alloc t =>
    simp only [cOp] at hc
    split at hc
    · rename_i z hz
      cases hc
      obtain ⟨v, h1, h2, _⟩ := zero_run (P := P) (w := w) (ν := ν) (ι := ι) hz
      refine VGood.res (s := Instr.alloc t true (.tuple #[])) ?_
      obtain ⟨u, w', g1, g2⟩ := rNew_ok (P := P) (t := t) H h2 hk
      exact ⟨u, w', by simp only [Instr.alloc, Sem.run_bind, h1, Result.andThen_ok]; exact g1, g2⟩
    · cases hc
  case box t x => simp only [cOp] at hc; cases hc; exact VGood.res (s := Instr.box t (ρ x)) (rNew_ok H (HX x) hk)
  case buildSlice t len parts => exact E_buildSlice H HX hc hk
  case store t a x =>
    simp only [cOp] at hc
    split at hc
    · rename_i i hi; cases hc; exact UGood.res (s := Instr.storeAt t (ρ a) (ρ x)) (rStore_ok H hi (HX a) (HX x) hk)
    · cases hc
  case makeMap t rv =>
    cases rv with
    | none => simp only [cOp] at hc; cases hc; exact VGood.res (s := Instr.makeMap t none) (mkmap_ok H hk)
    | some x => simp only [cOp] at hc; cases hc
  case mapUpdate t m kx x =>
    simp only [cOp, cMapset] at hc
    split at hc
    · rename_i kt e hd
      split at hc
      · rename_i q hq; cases hc; exact UGood.res (s := Instr.mapUpdate t (ρ m) (ρ kx) (ρ x)) (rMapset_ok H hC hd hq (HX m) (HX kx) (HX x) hk)
      · cases hc
    · cases hc
  case insert t m kx x =>
    simp only [cOp, cMapset] at hc
    split at hc
    · rename_i kt e hd
      split at hc
      · rename_i q hq; cases hc; exact UGood.res (s := Instr.mapUpdate t (ρ m) (ρ kx) (ρ x)) (rMapset_ok H hC hd hq (HX m) (HX kx) (HX x) hk)
      · cases hc
    · cases hc
  case range t x =>
    simp only [cOp] at hc
    split at hc
    · rename_i hd; cases hc; exact VGood.res (s := Instr.range t (ρ x)) (rRange_ok H hd (HX x) hk)
    · cases hc
  case next x b =>
    cases b with
    | false => simp only [cOp] at hc; cases hc; exact VGood.res (s := Instr.next (ρ x) false ty) (rNext_ok H (HX x) hk)
    | true => simp only [cOp] at hc; cases hc
  case call c => exact E_call H hC hrec HX hρ hc hk
  all_goals (simp only [cOp] at hc)
  case load t a => unfold cLoad at hc; split at hc <;> cases hc
  case binOp op t x y ty' =>
    have heq : ∀ {q : Nat} {x y : X}, cBin.cEq op q x y = .f p → False := by
      intro q x y h; unfold cBin.cEq at h; split at h <;> cases h
    unfold cBin at hc
    split at hc <;> first | cases hc | exact (heq hc).elim | (revert hc; cases (twoStr _ _ _) <;> (intro hc; simp only [cond_true, cond_false] at hc; first | cases hc | (unfold cEqS at hc; split at hc <;> cases hc)))
  case convert s d x => unfold cConv at hc; split at hc <;> (try (split at hc)) <;> cases hc
  case fieldAddr t x f => unfold cFieldAddr at hc; split at hc <;> (try (split at hc)) <;> (try cases hc); revert hc; cases (Nat.beq _ 0) <;> (intro hc; cases hc)
  case indexAddr t x i => unfold cIndexAddr at hc; split at hc <;> (try cases hc); revert hc; cases (Nat.beq _ 0) <;> (intro hc; cases hc)
  case index t x i => unfold cIndex at hc; split at hc <;> cases hc
  case slice t x lo hi mx =>
    unfold cSlice at hc; split at hc
    · split at hc <;> cases hc
    · revert hc; cases (Nat.beq _ 0 || _) <;> (intro hc; cases hc)
    · cases hc
  case build t parts =>
    unfold cBuild at hc; split at hc
    · revert hc; cases (Array.all _ _)
      · intro hc; cases hc
      · intro hc; simp only [cond_true] at hc; split at hc <;> cases hc
    · revert hc; cases (Nat.beq _ 0)
      · intro hc; simp only [cond_false] at hc; split at hc <;> cases hc
      · intro hc; cases hc
    · cases hc
  case lookup t m i ok => unfold cLookup at hc; split at hc <;> (try (split at hc)) <;> cases hc
  case makeFunc fn a b => cases fn <;> cases hc
  all_goals cases hc
theorem CO_ok (H : Rep ν base W σ ι w) (hC : C.Holds ν) (hP : C.P = P) {rec : CallK R} (hrec : CallOk P ν base W (callF C rec)) {loc : List LV} {fr : Fr} {env : Env} {ρ : Operand → Value} (HX : ∀ x, VR ν ι (ev loc fr (cX env x)) (ρ x))
    (hρ : ∀ f, ρ (.func f) = .func (.func f) #[] #[]) {o : Oper} {k : K R} {r : R} (hk : runCO C rec loc fr σ k (cOp P env o.op) = some r) : ERes P ν base W ι w k r ((execOp ρ o).run P w) := by
  cases hc : cOp P env o.op with
  | fail => rw [hc] at hk; cases hk
  | p p =>
    rw [hc] at hk
    have hk : runP C loc fr σ (fun v => k v σ) p = some r := hk
    obtain ⟨x, u, h1, h2, h3⟩ := P_ok H hC HX hc hk
    rw [h3]
    exact ⟨x, σ, ι, .refl _ _, H, h2, h1⟩
  | f p =>
    rw [hc] at hk
    have hk : runE C rec loc fr σ k p = some r := hk
    exact E_ok H hC hP hrec HX hρ hc hk
end
end Go.Eng
