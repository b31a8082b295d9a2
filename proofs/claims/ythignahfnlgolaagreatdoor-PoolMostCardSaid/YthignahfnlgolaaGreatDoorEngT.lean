/- Laws run by the symbolic executor where some functions are carried out by their contracts; a law called with nothing that returns true. Conditions: none. -/
import Derived.Test.YthignahfnlgolaaGreatDoorEngQ
namespace Go.Eng
open Go.RowKit (Below)
noncomputable section
/-- a function without arguments that returns true, and leaves what was there -/
def trueRun {R : Type} (args : List LV) (σ : St) (k : K R) : Option R := match args with
  | [] => k (.bool true) σ
  | _ => none
end
section
variable {ν : Nat → Int} {base : Nat} {W w w' : World} {σ : St} {ι : Inj} {P : Program} {C : Cfg}
theorem trueRun_ok {f : Nat} (h : ∀ w, Calls P f #[] w fun e w' => e = .returned (.bool true) ∧ Below w.heap.size w w') (hfn : ∃ fn, P.funcs[f]? = some fn ∧ (fn.name == "runtime.NumGoroutine") = false ∧ fn.body.isNone = false) : PrimOk P ν base W f ⟨fun args σ k => trueRun args σ k⟩ := by
  intro R args σ k r ι w vs hk H hv
  refine ERes_of_calls ⟨hfn, ?_⟩
  change trueRun args σ k = some r at hk
  unfold trueRun at hk
  split at hk
  · have hv : vs.toList = [] := hv
    obtain rfl : vs = #[] := by apply Array.ext'; simpa using hv
    refine (h w).mono fun e w' ⟨he, hb⟩ => ?_
    obtain ⟨H2, S2⟩ := H.kept hb
    exact ⟨_, he, .bool true, σ, ι, S2, H2, VR_bool, hk⟩
  · cases hk
theorem law_run2 {C : Cfg} {ν : Nat → Int} (hmix : C.P.follows .mixedOrders = true) (hC : C.Holds ν) (hnum : ∀ (f : Nat) fn, C.P.funcs[f]? = some fn → (fn.name == "runtime.NumGoroutine") = false) (hprims : ∀ f p, C.prims f = some p → PrimOk C.P ν W.heap.size W f p)
    {loops n f : Nat} {args : List LV} {vs : Array Value} {σ0 : St} {ι0 : Inj} (hk : call C loops n f args σ0 isTrue = some ()) (H : Rep ν W.heap.size W σ0 ι0 W) (hv : VRs ν ι0 args vs.toList) :
    Calls C.P f vs W fun e W' => e = .returned (.bool true) ∧ Below W.heap.size W W' := by
  have h := (call_ok (base := W.heap.size) (W := W) hmix hC rfl hnum hprims loops n) f args σ0 isTrue () ι0 W vs hk H hv
  refine h.2.mono fun e w' he => ?_
  obtain ⟨u, rfl, x, σ', ι', _, hrep, hx, hx2⟩ := he
  unfold isTrue at hx2
  split at hx2
  · simp only [VR] at hx; subst hx; exact ⟨rfl, hrep.below⟩
  · cases hx2
theorem repE (ν : Nat → Int) (W : World) : Rep ν W.heap.size W ⟨.e, 0⟩ (fun _ => none) W :=
  ⟨Below.refl _ _, Nat.le_refl _, fun b o h => (by cases h), fun b B h => (by cases h), fun b B h => (by cases h), fun b cs c s h => (by cases h), fun b b' o o' B B' _ h => (by cases h), (by show 0 ≤ _; omega)⟩
noncomputable def okCase2 (C : Cfg) (loops n f : Nat) (σ0 : St) (c : Case) : Bool :=
  match call (R := Unit) { C with facts := c.facts } loops n f c.args σ0 isTrue with
  | some _ => true
  | none => false
theorem okCase2_run {C : Cfg} (hmix : C.P.follows .mixedOrders = true) (hnum : ∀ (f : Nat) fn, C.P.funcs[f]? = some fn → (fn.name == "runtime.NumGoroutine") = false) (hr : C.rws = []) {loops n f : Nat} {c : Case} {σ0 : St} (h : okCase2 C loops n f σ0 c = true) {ν : Nat → Int}
    (hprims : ∀ f p, C.prims f = some p → PrimOk C.P ν W.heap.size W f p) (hf : Facts ν c.facts) {vs : Array Value} {ι0 : Inj} (H : Rep ν W.heap.size W σ0 ι0 W)
    (hv : VRs ν ι0 c.args vs.toList) : Calls C.P f vs W fun e W' => e = .returned (.bool true) ∧ Below W.heap.size W W' := by
  unfold okCase2 at h
  split at h
  · rename_i u hk
    exact law_run2 (C := { C with facts := c.facts }) hmix ⟨hf, fun _ _ h => by rw [hr] at h; cases h⟩ hnum hprims hk H hv
  · cases h
noncomputable def allCases (C : Cfg) (loops n f : Nat) (σ0 : St) (l : List Case) : Bool := List.rec true (fun c _ ih => cond (okCase2 C loops n f σ0 c) ih false) l
theorem allCases_mem {C : Cfg} {loops n f : Nat} {σ0 : St} {l : List Case} (h : allCases C loops n f σ0 l = true) : ∀ c ∈ l, okCase2 C loops n f σ0 c = true := by
  induction l with
  | nil => intro c hc; cases hc
  | cons c l ih =>
    have h : cond (okCase2 C loops n f σ0 c) (allCases C loops n f σ0 l) false = true := h
    cases e : okCase2 C loops n f σ0 c with
    | false => rw [e] at h; cases h
    | true =>
      rw [e, cond_true] at h
      intro c' hc'
      cases hc' with
      | head => exact e
      | tail _ hc' => exact ih h c' hc'
end
end Go.Eng
