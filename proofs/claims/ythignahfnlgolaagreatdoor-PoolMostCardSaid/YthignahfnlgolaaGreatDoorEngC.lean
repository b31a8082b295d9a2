/- The symbolic executor's code and calls follow the model's. Conditions: none. -/
import Derived.Test.YthignahfnlgolaaGreatDoorEngD6
namespace Go.Eng
section
variable {ν : Nat → Int} {base : Nat} {W w : World} {σ : St} {ι ι' : Inj} {R : Type} {P : Program} {C : Cfg}

def Out.exitOf : Out → Exit
  | .normal => .normal
  | .exit id => .exit id
  | .ret => .ret
/-- what holds where code is left -/
def ExQ (ν : Nat → Int) (base : Nat) (W : World) (mask nt : Nat) (ι : Inj) (w : World) (k : ExK R) (r : R) (e : Exit) (a : Act) (w' : World) : Prop :=
  ∃ (o : Out) (fr : Fr) (σ : St) (ι' : Inj), e = o.exitOf ∧ Step ι w ι' w' ∧ Rep ν base W σ ι' w' ∧ FrOk ν ι' mask nt fr a ∧ k o fr σ = some r
theorem ExQ.step {mask nt : Nat} {w1 w2 : World} {k : ExK R} {r : R} {e : Exit} {a : Act} (h : Step ι w ι' w1) (hq : ExQ ν base W mask nt ι' w1 k r e a w2) : ExQ ν base W mask nt ι w k r e a w2 := by
  obtain ⟨o, fr, σ, ι2, h1, h2, h3, h4, h5⟩ := hq
  exact ⟨o, fr, σ, ι2, h1, h.trans h2, h3, h4, h5⟩
theorem exec_zero {rec : CallK R} {recV : CallV} {c : CC} {fr : Fr} {k : ExK R} : exec C rec recV 0 c fr σ k = none := rfl
theorem exec_succ {rec : CallK R} {recV : CallV} {n : Nat} {c : CC} {fr : Fr} {k : ExK R} : exec C rec recV (n + 1) c fr σ k = execF C rec recV (exec C rec recV n) c fr σ k := rfl
/-- the least number of which something holds -/
theorem least {p : Nat → Prop} (h : ∃ n, p n) : ∃ n, p n ∧ ∀ m, p m → n ≤ m := by
  obtain ⟨n, hn⟩ := h
  induction n using Nat.strongRecOn with
  | _ n ih =>
    by_cases q : ∃ m, m < n ∧ p m
    · obtain ⟨m, h1, h2⟩ := q; exact ih m h1 h2
    · exact ⟨n, hn, fun m hm => Nat.le_of_not_lt fun hlt => q ⟨m, hlt, hm⟩⟩
theorem cDraw_cases (P : Program) (mask nt : Nat) (ops : Array Oper) : cDraw P mask nt ops = .fail ∨ ∃ ds fl, cDraw P mask nt ops = .dops ds fl := by
  unfold cDraw
  split
  · cases (okDraw _ _) with
    | true => exact .inr ⟨_, _, rfl⟩
    | false => exact .inl rfl
  · exact .inl rfl
theorem exec_ok (hmix : P.follows .mixedOrders = true) (hC : C.Holds ν) (hP : C.P = P) {rec : CallK R} {recV : CallV} (hrec : CallOk P ν base W (callF C rec)) (hrecV : CallOk P ν base W (callF C recV)) {mask nt : Nat} (hnt : nt ≤ 100000) {r : R} :
    ∀ (n : Nat) (c : Code) (fr : Fr) (σ : St) (k : ExK R) (a : Act) (w : World) (ι : Inj), exec C rec recV n (comp P mask nt c) fr σ k = some r → Rep ν base W σ ι w → FrOk ν ι mask nt fr a →
      c.wp P (ExQ ν base W mask nt ι w k r) a w := by
  intro N
  induction N using Nat.strongRecOn with
  | _ N IH =>
  intro c fr σ k a w ι hk H hf
  cases N with
  | zero => cases hk
  | succ n =>
  have IHn := IH n (Nat.lt_succ_self n)
  rw [exec_succ] at hk
  cases c
  case skip => exact wp_skip ⟨.normal, fr, σ, ι, rfl, .refl _ _, H, hf, hk⟩
  case label l => exact wp_label ⟨.normal, fr, σ, ι, rfl, .refl _ _, H, hf, hk⟩
  case region id ops draw =>
    cases draw with
    | false => exact region_ok hC hP hrec hnt (fun a' w' ⟨fr', σ', ι', h1, h2, h3, h4⟩ => ⟨.normal, fr', σ', ι', rfl, h1, h2, h3, h4⟩) hk H hf
    | true =>
      have hk : execF C rec recV (exec C rec recV n) (cDraw P mask nt ops) fr σ k = some r := hk
      rcases cDraw_cases P mask nt ops with hd | ⟨ds, fl, hd⟩
      · rw [hd] at hk; cases hk
      · rw [hd] at hk
        exact draw_ok hmix hC hP hrecV hnt hd (fun a' w' ⟨fr', σ', ι', h1, h2, h3, h4⟩ => ⟨.normal, fr', σ', ι', rfl, h1, h2, h3, h4⟩) hk H hf
  case seq x y =>
    have hk : exec C rec recV n (comp P mask nt x) fr σ (seqK (exec C rec recV n) (comp P mask nt y) k) = some r := hk
    refine wp_seq (wp_mono (IHn x fr σ _ a w ι hk H hf) ?_)
    rintro e a' w' ⟨o, fr', σ', ι', rfl, h1, h2, h3, h4⟩
    cases o with
    | normal => exact wp_mono (IHn y fr' σ' k a' w' ι' h4 h2 h3) fun _ _ _ q => q.step h1
    | exit id => exact ⟨.exit id, fr', σ', ι', rfl, h1, h2, h3, h4⟩
    | ret => exact ⟨.ret, fr', σ', ι', rfl, h1, h2, h3, h4⟩
  case cond c x y =>
    have hk : condK (exec C rec recV n) (comp P mask nt x) (comp P mask nt y) fr σ k (ev [] fr (cX [] c)) = some r := hk
    have hx := HX_of (env := []) (loc := []) hf (fun t i h => by cases h) c
    unfold condK at hk
    split at hk
    · rename_i b hb
      rw [hb] at hx
      simp only [VR] at hx
      refine wp_cond hx ?_
      cases b with
      | true => exact IHn x fr σ k a w ι hk H hf
      | false => exact IHn y fr σ k a w ι hk H hf
    · cases hk
  case block id x =>
    have hk : exec C rec recV n (comp P mask nt x) fr σ (blockK id k) = some r := hk
    refine wp_block (wp_mono (IHn x fr σ _ a w ι hk H hf) ?_)
    rintro e a' w' ⟨o, fr', σ', ι', rfl, h1, h2, h3, h4⟩
    cases o with
    | normal => exact ⟨.normal, fr', σ', ι', rfl, h1, h2, h3, h4⟩
    | exit id' =>
      simp only [blockK] at h4
      show (if id' = id then _ else _)
      by_cases e : id' = id
      · rw [if_pos e]
        rw [natBeq.2 e, cond_true] at h4
        exact ⟨.normal, fr', σ', ι', rfl, h1, h2, h3, h4⟩
      · rw [if_neg e]
        have : Nat.beq id' id = false := by
          cases q : Nat.beq id' id with
          | false => rfl
          | true => exact absurd (natBeq.1 q) e
        rw [this, cond_false] at h4
        exact ⟨.exit id', fr', σ', ι', rfl, h1, h2, h3, h4⟩
    | ret => exact ⟨.ret, fr', σ', ι', rfl, h1, h2, h3, h4⟩
  case loop x =>
    have hk : exec C rec recV n (comp P mask nt x) fr σ (seqK (exec C rec recV n) (.loop (comp P mask nt x)) k) = some r := hk
    let J : Nat → Act → World → Prop := fun m a' w' => m ≤ n ∧ ∃ fr' σ' ι', Step ι w ι' w' ∧ Rep ν base W σ' ι' w' ∧ FrOk ν ι' mask nt fr' a' ∧
      exec C rec recV m (comp P mask nt x) fr' σ' (seqK (exec C rec recV m) (.loop (comp P mask nt x)) k) = some r
    have hsome : ∀ a' w', ∃ m, (∃ m, J m a' w') → J m a' w' ∧ ∀ m', J m' a' w' → m ≤ m' := by
      intro a' w'
      by_cases h : ∃ m, J m a' w'
      · obtain ⟨m, h1, h2⟩ := least h; exact ⟨m, fun _ => ⟨h1, h2⟩⟩
      · exact ⟨0, fun q => absurd q h⟩
    refine wp_loop (fun a' w' => ∃ m, J m a' w') (fun a' w' => Classical.choose (hsome a' w')) ⟨n, Nat.le_refl _, fr, σ, ι, .refl _ _, H, hf, hk⟩ ?_
    intro a1 w1 hJ
    obtain ⟨⟨hmn, fr1, σ1, ι1, g1, g2, g3, g4⟩, hleast⟩ := Classical.choose_spec (hsome a1 w1) hJ
    refine wp_mono (IH _ (Nat.lt_succ_of_le hmn) x fr1 σ1 _ a1 w1 ι1 g4 g2 g3) ?_
    rintro e a' w' ⟨o, fr', σ', ι', rfl, h1, h2, h3, h4⟩
    cases o with
    | normal =>
      have h4 : exec C rec recV (Classical.choose (hsome a1 w1)) (.loop (comp P mask nt x)) fr' σ' k = some r := h4
      generalize hm : Classical.choose (hsome a1 w1) = m at h4 hmn
      cases m with
      | zero => cases h4
      | succ m =>
        have hJ' : J m a' w' := ⟨by omega, fr', σ', ι', g1.trans h1, h2, h3, h4⟩
        refine ⟨⟨m, hJ'⟩, ?_⟩
        have := (Classical.choose_spec (hsome a' w') ⟨m, hJ'⟩).2 m hJ'
        exact Nat.lt_succ_of_le this
    | exit id => exact ⟨.exit id, fr', σ', ι', rfl, g1.trans h1, h2, h3, h4⟩
    | ret => exact ⟨.ret, fr', σ', ι', rfl, g1.trans h1, h2, h3, h4⟩
  case exit id => exact wp_exit ⟨.exit id, fr, σ, ι, rfl, .refl _ _, H, hf, hk⟩
  case ret => exact wp_ret ⟨.ret, fr, σ, ι, rfl, .refl _ _, H, hf, hk⟩
  all_goals cases hk

/-! ## calls -/
theorem frameOf_get (mask : Nat) : ∀ (args : List LV) (i : Nat) (fr : Fr), i + args.length ≤ 500000001 → ∀ t v, (frameOf mask fr i args).get t = some v →
    (∃ j, t = i + j ∧ args[j]? = some v ∧ Nat.testBit mask t = true) ∨ fr.get t = some v
  | [], i, fr, _, t, v, h => .inr h
  | x :: args, i, fr, hl, t, v, h => by
    simp only [List.length_cons] at hl
    simp only [frameOf] at h
    rcases frameOf_get mask args (i + 1) _ (by omega) t v h with ⟨j, h1, h2, h3⟩ | h
    · exact .inl ⟨j + 1, by omega, by simpa using h2, h3⟩
    · cases e : Nat.testBit mask i with
      | true =>
        rw [e, cond_true, Tr.get_set _ _ _ _ (by omega)] at h
        by_cases q : t = i
        · rw [if_pos q] at h; cases h; exact .inl ⟨0, by omega, rfl, by rw [q]; exact e⟩
        · rw [if_neg q] at h; exact .inr h
      | false => rw [e, cond_false] at h; exact .inr h
theorem loadPtr {x : LV} {v : Value} {t : TypeId} (hx : VR ν ι x v) {b o : Nat} (hp : x = .ptr b o) : (do Go.loadVar t (← asAddr v)) = Instr.loadAt t v := by
  subst hp
  simp only [VR] at hx
  obtain ⟨B, _, rfl⟩ := hx
  rfl
theorem resOf_ok (H : Rep ν base W σ ι w) {mask nt : Nat} {fr : Fr} {a : Act} (hf : FrOk ν ι mask nt fr a) : ∀ {res : List ResultVar} {kk : List LV → Option R} {r : R}, resOf σ fr kk (res.map (cRes P)) = some r →
    ∃ xs us, kk xs = some r ∧ VRs ν ι xs us ∧ (res.mapM fun rv => (match rv with | .tmp t => pure (a.tmps.getD t undef) | .cell ad t => do Go.loadVar t (← asAddr (a.tmps.getD ad undef)) : Sem Value)).run P w = .ok us w
  | [], kk, r, h => ⟨[], [], h, VRs_nil, rfl⟩
  | rv :: res, kk, r, h => by
    have hx : ∀ t, VR ν ι (getV (fr.get t)) (a.tmps.getD t undef) := fun t => HX_of (env := []) (loc := []) hf (fun t i h => by cases h) (.tmp t)
    cases rv with
    | tmp t =>
      obtain ⟨xs, us, h1, h2, h3⟩ := resOf_ok H hf (res := res) (kk := fun vs => kk (getV (fr.get t) :: vs)) h
      refine ⟨_, _, h1, VRs_cons (hx t) h2, ?_⟩
      simp only [List.mapM_cons, Sem.run_bind, Sem.run_pure, Result.andThen_ok, h3]
    | cell ad t =>
      simp only [List.map_cons, cRes] at h
      split at h
      · rename_i hag
        have h : rLoadN σ (sizeOf P t) (getV (fr.get ad)) (fun v => resOf σ fr (fun vs => kk (v :: vs)) (res.map (cRes P))) = some r := h
        obtain ⟨x, u, g1, g2, g3⟩ := rLoadN_ok (P := P) H hag (hx ad) h
        obtain ⟨xs, us, h1, h2, h3⟩ := resOf_ok H hf (res := res) g1
        refine ⟨_, _, h1, VRs_cons g2 h2, ?_⟩
        have hp : ∃ b o, getV (fr.get ad) = .ptr b o := by unfold rLoadN at h; split at h <;> first | exact ⟨_, _, by assumption⟩ | cases h
        obtain ⟨b, o, hp⟩ := hp
        have e := loadPtr (t := t) (hx ad) hp
        simp only [List.mapM_cons]
        rw [e]
        simp only [Sem.run_bind, g3, Result.andThen_ok, h3, Sem.run_pure]
      · rename_i hag
        have h : rLoad1 σ (getV (fr.get ad)) (fun v => resOf σ fr (fun vs => kk (v :: vs)) (res.map (cRes P))) = some r := h
        obtain ⟨x, u, g1, g2, g3⟩ := rLoad1_ok (P := P) H hag (hx ad) h
        obtain ⟨xs, us, h1, h2, h3⟩ := resOf_ok H hf (res := res) g1
        refine ⟨_, _, h1, VRs_cons g2 h2, ?_⟩
        have hp : ∃ b o, getV (fr.get ad) = .ptr b o := by unfold rLoad1 at h; split at h <;> first | exact ⟨_, _, by assumption⟩ | cases h
        obtain ⟨b, o, hp⟩ := hp
        have e := loadPtr (t := t) (hx ad) hp
        simp only [List.mapM_cons]
        rw [e]
        simp only [Sem.run_bind, g3, Result.andThen_ok, h3, Sem.run_pure]
      · cases h
/-- what a function that is not run from its code is to be -/
def PrimOk (P : Program) (ν : Nat → Int) (base : Nat) (W : World) (f : Nat) (p : Prim) : Prop :=
  ∀ (R : Type) (args : List LV) (σ : St) (k : K R) (r : R) (ι : Inj) (w : World) (vs : Array Value), p.run args σ k = some r → Rep ν base W σ ι w → VRs ν ι args vs.toList → ERes P ν base W ι w k r ((callFunc f vs).run P w)
theorem callF_ok {rec : CallK R} (hrec : CallOk0 P ν base W rec) (hprims : ∀ f p, C.prims f = some p → PrimOk P ν base W f p) : CallOk P ν base W (callF C rec) := by
  intro f args σ k r ι w vs hk H hv
  unfold callF at hk
  split at hk
  · rename_i p hp; exact hprims f p hp R args σ k r ι w vs hk H hv
  · exact ERes_of_calls (hrec f args σ k r ι w vs hk H hv)
theorem callG_ok (hmix : P.follows .mixedOrders = true) (hC : C.Holds ν) (hP : C.P = P) (hnum : ∀ (f : Nat) fn, P.funcs[f]? = some fn → (fn.name == "runtime.NumGoroutine") = false) (loops : Nat) {rec : CallK R} {recV : CallV}
    (ih : CallOk P ν base W (callF C rec)) (ihV : CallOk P ν base W (callF C recV)) : CallOk0 P ν base W (callG C loops rec recV) := by
    intro f args σ k r ι w vs hk H hv
    have hk : (match compF C.P (C.mask f) f with
      | some cf => cond (Nat.ble (lenL args) 1000000) (exec C rec recV loops cf.body (frameOf (C.mask f) .e 0 args) σ (retK cf.res k)) none
      | none => none) = some r := hk
    rw [hP] at hk
    split at hk
    · rename_i cf hcf
      obtain ⟨hlen, hk⟩ := cond_some hk
      have hlen : args.length ≤ 1000000 := by have := natBle.1 hlen; rwa [lenL_eq] at this
      unfold compF at hcf
      split at hcf
      · rename_i fn hfn
        split at hcf
        · rename_i c hbody
          obtain ⟨hnt, hcf⟩ := cond_some hcf
          have hnt := natBle.1 hnt
          cases hcf
          refine ⟨⟨fn, hfn, hnum f fn hfn, by rw [hbody]; rfl⟩, ?_⟩
          have hvl := hv.length
          simp only [Array.length_toList] at hvl
          have hf : FrOk ν ι (C.mask f) fn.ntmps (frameOf (C.mask f) .e 0 args) { tmps := vs ++ Array.replicate (fn.ntmps - vs.size) undef, defers := [] } := by
            refine ⟨rfl, by simp; omega, ?_, ?_⟩
            · intro t v ht
              rcases frameOf_get _ args 0 .e (by omega) t v ht with ⟨j, h1, h2, _⟩ | h
              · rw [Nat.zero_add] at h1; subst h1
                obtain ⟨hj, hjv⟩ := List.getElem?_eq_some_iff.1 h2
                obtain ⟨u, hu, hvu⟩ := hv.get t hj
                rw [hjv] at hvu
                have : (vs ++ Array.replicate (fn.ntmps - vs.size) undef).getD t undef = u := by
                  rw [Array.getD_eq_getD_getElem?, Array.getElem?_append_left (by omega)]
                  simp only [Array.getElem?_toList] at hu
                  rw [hu]; rfl
                show VR ν ι v ((vs ++ Array.replicate (fn.ntmps - vs.size) undef).getD t undef)
                rw [this]; exact hvu
              · cases h
            · intro t v ht
              rcases frameOf_get _ args 0 .e (by omega) t v ht with ⟨j, _, _, h3⟩ | h
              · exact h3
              · cases h
          refine calls_of_wp hfn hbody (wp_mono (exec_ok hmix hC hP ih ihV hnt loops c _ σ _ _ w ι hk H hf) ?_)
          rintro e a' w' ⟨o, fr', σ', ι', rfl, h1, h2, h3, h4⟩
          have main : resOf σ' fr' (resK k σ') (fn.results.toList.map (cRes P)) = some r → a'.defers = [] ∧ ∃ v, (results fn a'.tmps).run P w' = .ok v w' ∧ ∃ u, (Ending.returned v) = .returned u ∧ Post ν base W ι w k r u w' := by
            intro hr
            obtain ⟨xs, us, g1, g2, g3⟩ := resOf_ok (P := P) h2 h3 hr
            have hl := g2.length
            refine ⟨h3.defers, if h : us.toArray.size = 1 then us.toArray[0] else .tuple us.toArray, ?_, _, rfl, ?_⟩
            · unfold results
              simp only [Sem.run_bind]
              rw [Array.mapM_eq_mapM_toList]
              simp only [Sem.run_map]
              refine Eq.trans (congrArg (fun z => Result.andThen (Result.andThen z _) _) g3) ?_
              rfl
            · cases xs with
              | nil =>
                have hus : us = [] := by simpa using hl.symm
                subst hus
                exact ⟨_, σ', ι', h1, h2, (by simp only [VR]; exact ⟨_, rfl, g2⟩), g1⟩
              | cons x xs =>
                cases us with
                | nil => cases hl
                | cons u us =>
                  cases xs with
                  | nil =>
                    have hus : us = [] := by simpa using hl.symm
                    subst hus
                    exact ⟨_, σ', ι', h1, h2, (VRs_cons_iff.1 g2).1, g1⟩
                  | cons y ys =>
                    have hne : ¬ (u :: us).toArray.size = 1 := by simp at hl ⊢; intro q; subst q; simp at hl
                    rw [dif_neg hne]
                    exact ⟨_, σ', ι', h1, h2, (by simp only [VR]; exact ⟨_, rfl, g2⟩), g1⟩
          cases o with
          | normal => exact main h4
          | ret => exact main h4
          | exit id => cases h4
        · cases hcf
      · cases hcf
    · cases hk
theorem callV_ok (hmix : P.follows .mixedOrders = true) (hC : C.Holds ν) (hP : C.P = P) (hnum : ∀ (f : Nat) fn, P.funcs[f]? = some fn → (fn.name == "runtime.NumGoroutine") = false)
    (hprims : ∀ f p, C.prims f = some p → PrimOk P ν base W f p) (loops : Nat) : ∀ n, CallOk0 P ν base W (callV C loops n)
  | 0 => by intro f args σ k r ι w vs hk; cases hk
  | n + 1 => by
    have ih := callF_ok (callV_ok hmix hC hP hnum hprims loops n) hprims
    exact callG_ok hmix hC hP hnum loops ih ih
theorem call_ok (hmix : P.follows .mixedOrders = true) (hC : C.Holds ν) (hP : C.P = P) (hnum : ∀ (f : Nat) fn, P.funcs[f]? = some fn → (fn.name == "runtime.NumGoroutine") = false)
    (hprims : ∀ f p, C.prims f = some p → PrimOk P ν base W f p) (loops : Nat) : ∀ n, CallOk0 P ν base W (call C loops n : CallK R)
  | 0 => by intro f args σ k r ι w vs hk; cases hk
  | n + 1 => callG_ok hmix hC hP hnum loops (callF_ok (call_ok hmix hC hP hnum hprims loops n) hprims) (callF_ok (callV_ok hmix hC hP hnum hprims loops n) hprims)
end
end Go.Eng
