/- A law that the symbolic executor answers with true in each of its cases returns true. Conditions: none. -/
import Derived.Test.YthignahfnlgolaaGreatDoorEngC
namespace Go.Eng
open Go.RowKit (Below)
section
variable {W : World}

/-- it returned true -/
def isTrue : K Unit := fun v _ => match v with | .bool true => some () | _ => none
theorem law_run {C : Cfg} {ν : Nat → Int} (hmix : C.P.follows .mixedOrders = true) (hC : C.Holds ν) (hnum : ∀ (f : Nat) fn, C.P.funcs[f]? = some fn → (fn.name == "runtime.NumGoroutine") = false) (hprims : ∀ f, C.prims f = none)
    {loops n f : Nat} {args : List LV} {vs : Array Value} (hk : call C loops n f args ⟨.e, 0⟩ isTrue = some ()) (hv : VRs ν (fun _ => none) args vs.toList) :
    Calls C.P f vs W fun e W' => e = .returned (.bool true) ∧ Below W.heap.size W W' := by
  have H : Rep ν W.heap.size W ⟨.e, 0⟩ (fun _ => none) W :=
    ⟨Below.refl _ _, Nat.le_refl _, fun b o h => (by cases h), fun b B h => (by cases h), fun b B h => (by cases h), fun b cs c s h => (by cases h), fun b b' o o' B B' _ h => (by cases h), (by show 0 ≤ _; omega)⟩
  have h := (call_ok (base := W.heap.size) (W := W) hmix hC rfl hnum (fun f p hp => by rw [hprims f] at hp; cases hp) loops n) f args ⟨.e, 0⟩ isTrue () (fun _ => none) W vs hk H hv
  refine h.2.mono fun e w' he => ?_
  obtain ⟨u, rfl, x, σ', ι', _, hrep, hx, hx2⟩ := he
  unfold isTrue at hx2
  split at hx2
  · simp only [VR] at hx; subst hx; exact ⟨rfl, hrep.below⟩
  · cases hx2
/-- no function is the one that counts goroutines -/
theorem hnum_of {P : Program} (h : (P.funcs.toList.all fun fn => !(fn.name == "runtime.NumGoroutine")) = true) : ∀ (f : Nat) fn, P.funcs[f]? = some fn → (fn.name == "runtime.NumGoroutine") = false := by
  intro f fn hf
  rw [List.all_eq_true] at h
  have hm : fn ∈ P.funcs.toList := by rw [Array.mem_toList_iff]; exact Array.mem_of_getElem? hf
  simpa using h fn hm

/-! ## cases -/
structure Case where
  facts : List (BinOp × E × E × Bool)
  args : List LV
noncomputable def okCase (P : Program) (mask loops n f : Nat) (c : Case) : Bool :=
  match call (R := Unit) ⟨P, fun _ => mask, fun _ => none, c.facts, []⟩ loops n f c.args ⟨.e, 0⟩ isTrue with
  | some _ => true
  | none => false
noncomputable def allOk (P : Program) (mask loops n f : Nat) (l : List Case) : Bool := List.rec true (fun c _ ih => cond (okCase P mask loops n f c) ih false) l
theorem allOk_mem {P : Program} {mask loops n f : Nat} {l : List Case} (h : allOk P mask loops n f l = true) : ∀ c ∈ l, okCase P mask loops n f c = true := by
  induction l with
  | nil => intro c hc; cases hc
  | cons c l ih =>
    have h : cond (okCase P mask loops n f c) (allOk P mask loops n f l) false = true := h
    cases e : okCase P mask loops n f c with
    | false => rw [e] at h; cases h
    | true =>
      rw [e, cond_true] at h
      intro c' hc'
      cases hc' with
      | head => exact e
      | tail _ hc' => exact ih h c' hc'
def Facts (ν : Nat → Int) (l : List (BinOp × E × E × Bool)) : Prop := ∀ op a b r, (op, a, b, r) ∈ l → semC op (E.den ν a) (E.den ν b) = r
theorem Facts.nil {ν : Nat → Int} : Facts ν [] := fun _ _ _ _ h => by cases h
theorem Facts.append {ν : Nat → Int} {l m : List (BinOp × E × E × Bool)} (h : Facts ν l) (k : Facts ν m) : Facts ν (l ++ m) := fun op a b r hm => (List.mem_append.1 hm).elim (h op a b r) (k op a b r)
theorem okCase_run {P : Program} (hmix : P.follows .mixedOrders = true) (hnum : ∀ (f : Nat) fn, P.funcs[f]? = some fn → (fn.name == "runtime.NumGoroutine") = false) {mask loops n f : Nat} {c : Case} (h : okCase P mask loops n f c = true) {ν : Nat → Int} (hf : Facts ν c.facts) {vs : Array Value}
    (hv : VRs ν (fun _ => none) c.args vs.toList) : Calls P f vs W fun e W' => e = .returned (.bool true) ∧ Below W.heap.size W W' := by
  unfold okCase at h
  split at h
  · rename_i u hk
    exact law_run hmix (C := ⟨P, fun _ => mask, fun _ => none, c.facts, []⟩) ⟨hf, fun _ _ h => by cases h⟩ hnum (fun _ => rfl) hk hv
  · cases h

/-! ## whole numbers, each alone or all of a kind -/
structure Num where
  v : LV
  facts : List (BinOp × E × E × Bool)
def Num.Fits (ν : Nat → Int) (n : Int) (c : Num) : Prop := VR ν (fun _ => none) c.v (.int .i64 n) ∧ Facts ν c.facts
/-- one that is known -/
def Num.one (n : Int) : Num := ⟨.int .i64 n, []⟩
theorem Num.one_fits {ν : Nat → Int} (n : Int) : (Num.one n).Fits ν n := ⟨VR_int, .nil⟩
/-- less than all of these -/
def lowFacts (i : Nat) (l : List Int) : List (BinOp × E × E × Bool) := l.flatMap fun m =>
  [(.eql, .var i, .lit m, false), (.neq, .var i, .lit m, true), (.lss, .var i, .lit m, true), (.leq, .var i, .lit m, true), (.gtr, .var i, .lit m, false), (.geq, .var i, .lit m, false)]
/-- greater than all of these -/
def highFacts (i : Nat) (l : List Int) : List (BinOp × E × E × Bool) := l.flatMap fun m =>
  [(.eql, .var i, .lit m, false), (.neq, .var i, .lit m, true), (.lss, .var i, .lit m, false), (.leq, .var i, .lit m, false), (.gtr, .var i, .lit m, true), (.geq, .var i, .lit m, true)]
/-- none of these -/
def otherFacts (i : Nat) (l : List Int) : List (BinOp × E × E × Bool) := l.flatMap fun m => [(.eql, .var i, .lit m, false), (.neq, .var i, .lit m, true)]
/-- at least that -/
def leastFacts (i : Nat) (m : Int) : List (BinOp × E × E × Bool) := [(.lss, .var i, .lit m, false), (.geq, .var i, .lit m, true)]
theorem lowFacts_ok {ν : Nat → Int} {i : Nat} {l : List Int} (h : ∀ m ∈ l, ν i < m) : Facts ν (lowFacts i l) := by
  intro op a b r hm
  simp only [lowFacts, List.mem_flatMap] at hm
  obtain ⟨m, hl, hm⟩ := hm
  have := h m hl
  simp only [List.mem_cons, List.not_mem_nil, or_false, Prod.mk.injEq] at hm
  rcases hm with ⟨rfl, rfl, rfl, rfl⟩ | ⟨rfl, rfl, rfl, rfl⟩ | ⟨rfl, rfl, rfl, rfl⟩ | ⟨rfl, rfl, rfl, rfl⟩ | ⟨rfl, rfl, rfl, rfl⟩ | ⟨rfl, rfl, rfl, rfl⟩ <;> (first
    | exact beq_eq_false_iff_ne.2 (show ν i ≠ m by omega)
    | exact bne_iff_ne.2 (show ν i ≠ m by omega)
    | exact decide_eq_true (p := ν i < m) (by omega)
    | exact decide_eq_true (p := ν i ≤ m) (by omega)
    | exact decide_eq_true (p := ν i > m) (by omega)
    | exact decide_eq_true (p := ν i ≥ m) (by omega)
    | exact decide_eq_false (p := ν i < m) (by omega)
    | exact decide_eq_false (p := ν i ≤ m) (by omega)
    | exact decide_eq_false (p := ν i > m) (by omega)
    | exact decide_eq_false (p := ν i ≥ m) (by omega))
theorem highFacts_ok {ν : Nat → Int} {i : Nat} {l : List Int} (h : ∀ m ∈ l, m < ν i) : Facts ν (highFacts i l) := by
  intro op a b r hm
  simp only [highFacts, List.mem_flatMap] at hm
  obtain ⟨m, hl, hm⟩ := hm
  have := h m hl
  simp only [List.mem_cons, List.not_mem_nil, or_false, Prod.mk.injEq] at hm
  rcases hm with ⟨rfl, rfl, rfl, rfl⟩ | ⟨rfl, rfl, rfl, rfl⟩ | ⟨rfl, rfl, rfl, rfl⟩ | ⟨rfl, rfl, rfl, rfl⟩ | ⟨rfl, rfl, rfl, rfl⟩ | ⟨rfl, rfl, rfl, rfl⟩ <;> (first
    | exact beq_eq_false_iff_ne.2 (show ν i ≠ m by omega)
    | exact bne_iff_ne.2 (show ν i ≠ m by omega)
    | exact decide_eq_true (p := ν i < m) (by omega)
    | exact decide_eq_true (p := ν i ≤ m) (by omega)
    | exact decide_eq_true (p := ν i > m) (by omega)
    | exact decide_eq_true (p := ν i ≥ m) (by omega)
    | exact decide_eq_false (p := ν i < m) (by omega)
    | exact decide_eq_false (p := ν i ≤ m) (by omega)
    | exact decide_eq_false (p := ν i > m) (by omega)
    | exact decide_eq_false (p := ν i ≥ m) (by omega))
theorem otherFacts_ok {ν : Nat → Int} {i : Nat} {l : List Int} (h : ∀ m ∈ l, ν i ≠ m) : Facts ν (otherFacts i l) := by
  intro op a b r hm
  simp only [otherFacts, List.mem_flatMap] at hm
  obtain ⟨m, hl, hm⟩ := hm
  have := h m hl
  simp only [List.mem_cons, List.not_mem_nil, or_false, Prod.mk.injEq] at hm
  rcases hm with ⟨rfl, rfl, rfl, rfl⟩ | ⟨rfl, rfl, rfl, rfl⟩ <;> simp [semC, E.den, this]
theorem leastFacts_ok {ν : Nat → Int} {i : Nat} {m : Int} (h : m ≤ ν i) : Facts ν (leastFacts i m) := by
  intro op a b r hm
  simp only [leastFacts, List.mem_cons, List.not_mem_nil, or_false, Prod.mk.injEq] at hm
  rcases hm with ⟨rfl, rfl, rfl, rfl⟩ | ⟨rfl, rfl, rfl, rfl⟩ <;> (first
    | exact beq_eq_false_iff_ne.2 (show ν i ≠ m by omega)
    | exact bne_iff_ne.2 (show ν i ≠ m by omega)
    | exact decide_eq_true (p := ν i < m) (by omega)
    | exact decide_eq_true (p := ν i ≤ m) (by omega)
    | exact decide_eq_true (p := ν i > m) (by omega)
    | exact decide_eq_true (p := ν i ≥ m) (by omega)
    | exact decide_eq_false (p := ν i < m) (by omega)
    | exact decide_eq_false (p := ν i ≤ m) (by omega)
    | exact decide_eq_false (p := ν i > m) (by omega)
    | exact decide_eq_false (p := ν i ≥ m) (by omega))
end
end Go.Eng
