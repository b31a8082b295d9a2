/- Loops over a slice: what the symbolic executor is told of an element, of the rounds' ends. Conditions: none. -/
import Derived.Test.YthignahfnlgolaaEngS
import Derived.Test.YthignahfnlgolaaEngB
namespace Go.Eng
open Go.RowKit (Below)
abbrev AS := List (Nat × LV)
/-- the temporaries of a loop: the slice, its length, the place; the element's address, the element, twice; the law's result; how it is left -/
structure LT where
  ts : Nat
  tl : Nat
  ti : Nat
  d0 : Nat
  d1 : Nat
  d2 : Nat
  tr : Nat
  xid : Nat
noncomputable section
def afterElem (mask : Nat) (T : LT) (x : LV) (fr : Fr) : Fr := keepV (keepV (keepV fr .bad (keepIn mask (some T.d0))) x (keepIn mask (some T.d1))) x (keepIn mask (some T.d2))
def prep (v : LV) (o : Option (List LV)) : Option (List LV) := match o with | some r => some (v :: r) | none => none
def isIx (v : LV) (k : Option (List LV)) : Option (List LV) := match v with | .sym .i64 (.var 1) => k | _ => none
def hdR (mask : Nat) (T : LT) (x : LV) : HK (List LV) := fun _ fr σ k => isIx (getV (fr.get T.ti)) (prep (getV (fr.get T.ts)) (k .normal (afterElem mask T x fr) σ))
def fits1 (fr : Fr) (s : AS) : Bool := s.all fun p => LV.beq p.2 (getV (fr.get p.1))
def ixs (T : LT) (s : AS) : AS := (T.tl, .sym .i64 (.var 2)) :: (T.ti, .sym .i64 (.var 1)) :: s
def nextIx (T : LT) (fr : Fr) : Bool := LV.beq (.sym .i64 (.var 2)) (getV (fr.get T.tl)) && LV.beq (.sym .i64 (.bin .add .i64 (.var 1) (.lit 1))) (getV (fr.get T.ti))
def more {α : Type} (o p : Option (List α)) : Option (List α) := match o with
  | some l => (match p with | some m => some (l ++ m) | none => none)
  | none => none
def collect {α : Type} (f : α → Option (List LV)) (l : List α) : Option (List LV) := List.rec (some []) (fun c _ ih => more (f c) ih) l
def hL (c : Code) : Option Nat := match c with | .loop _ => some 0 | _ => none
def hE (id : Nat) (c : Code) : Option Nat := match c with | .region i _ _ => cond (Nat.beq i id) (some 1) none | _ => none
def loopOf (l : List (Nat × Code)) : Code := match l with | (_, .loop x) :: _ => x | _ => .skip
def opsOf (l : List (Nat × Code)) : Array Oper := match l with | (_, .region _ ops _) :: _ => ops | _ => #[]
def both (a b : Option Unit) : Option Unit := match a with | some _ => (match b with | some _ => some () | none => none) | none => none
def goOn (T : LT) (σ : St) (k : ExK Unit) : Option Unit := both (k (.exit T.xid) .e σ) (k .ret (mkFr [(T.tr, .bool true)]) σ)
def allN (n : Nat) (f : Nat → Bool) : Bool := Nat.rec true (fun i ih => cond (f i) ih false) n
def isSm (o : Option Unit) : Bool := match o with | some _ => true | none => false
end
theorem collect_mem {α : Type} {f : α → Option (List LV)} : ∀ {l : List α} {r : List LV}, collect f l = some r → ∀ c ∈ l, ∃ q, f c = some q ∧ ∀ v ∈ q, v ∈ r
  | [], _, _, c, hc => by cases hc
  | a :: l, r, h, c, hc => by
    have h : more (f a) (collect f l) = some r := h
    unfold more at h
    split at h
    · rename_i q hq
      split at h
      · rename_i m hm
        cases h
        cases hc with
        | head => exact ⟨q, hq, fun v hv => List.mem_append_left _ hv⟩
        | tail _ hc =>
          obtain ⟨q', h1, h2⟩ := collect_mem hm c hc
          exact ⟨q', h1, fun v hv => List.mem_append_right _ (h2 v hv)⟩
      · cases h
    · cases h
theorem allN_mem {f : Nat → Bool} : ∀ {n : Nat}, allN n f = true → ∀ i, i < n → f i = true
  | 0, _, i, hi => by omega
  | n + 1, h, i, hi => by
    have h : cond (f n) (allN n f) false = true := h
    cases e : f n with
    | false => rw [e] at h; cases h
    | true =>
      rw [e, cond_true] at h
      by_cases q : i = n
      · rw [q]; exact e
      · exact allN_mem h i (by omega)
section
variable {P : Program} {ν : Nat → Int} {base : Nat} {W : World}
/-- the calls of code that has such places -/
theorem recs_ok {C : Cfg} {R : Type} (hmix : P.follows .mixedOrders = true) (hC : C.Holds ν) (hP : C.P = P) (hnum : ∀ (f : Nat) fn, P.funcs[f]? = some fn → (fn.name == "runtime.NumGoroutine") = false) (hprims : ∀ f p, C.prims f = some p → PrimOk P ν base W f p) (loops n : Nat) :
    CallOk P ν base W (callF C (call C loops n) : CallK R) ∧ CallOk P ν base W (callF C (callV C loops n)) :=
  ⟨callF_ok (call_ok hmix hC hP hnum hprims loops n) (fun f p hp => hprims f p hp _), callF_ok (callV_ok hmix hC hP hnum hprims loops n) (fun f p hp => hprims f p hp _)⟩
/-- an element is taken -/
theorem elem_hole {mask nt : Nat} (hnt : nt ≤ 100000) {T : LT} {ι0 : Inj} {w1 : World} {id : Nat} {ops : Array Oper} {t e te : Nat} {o0 o1 o2 : Oper} (hs : ops.size = 3) (h0 : ops[0]? = some o0) (h1 : ops[1]? = some o1) (h2 : ops[2]? = some o2)
    (g0 : o0.guard = none) (g1 : o1.guard = none) (g2 : o2.guard = none) (p0 : o0.op = .indexAddr t (.tmp T.ts) (.tmp T.ti)) (p1 : o1.op = .load te (.tmp T.d0)) (p2 : o2.op = .assign (.tmp T.d1)) (q0 : o0.dst = some T.d0) (q1 : o1.dst = some T.d1) (q2 : o2.dst = some T.d2)
    (hd : und P t = some (.slice e)) (hz : sizeOf P e = 1) (hag : agg? P te = some false) (hlt : T.d0 < nt ∧ T.d1 < nt ∧ T.d2 < nt) {B : Blk} (hB : ι0 0 = some B) {n i : Nat} (hi : i < n) (hν : ν 1 = i) {x : LV} {u : Value} (hx : ∀ ι : Inj, VR ν ι x u)
    (hcell : ∀ w', Below base W w' → w'.cell? ((⟨B.blk, B.base, none⟩ : Addr).add i) = some u) (j : Nat) :
    HoleOk P ν base W mask nt (fun r : List LV => ∀ v ∈ r, v = slN n) ι0 w1 (.region id ops false) (hdR mask T x j) := by
  intro fr σ k r a2 w2 ι hk hok hst H2 hf2
  simp only [hdR] at hk
  unfold isIx at hk
  split at hk
  · rename_i hix
    unfold prep at hk
    split at hk
    · rename_i r' hr'
      cases hk
      have htsl : getV (fr.get T.ts) = slN n := hok _ (List.mem_cons_self ..)
      have v1 : VR ν ι (getV (fr.get T.ts)) (a2.tmps.getD T.ts undef) := HX_of (env := []) (loc := []) hf2 (fun t i h => by cases h) (.tmp T.ts)
      have v2 : VR ν ι (getV (fr.get T.ti)) (a2.tmps.getD T.ti undef) := HX_of (env := []) (loc := []) hf2 (fun t i h => by cases h) (.tmp T.ti)
      rw [htsl] at v1
      rw [hix] at v2
      simp only [slN, VR] at v1
      obtain ⟨B', a', cc, hB', e1, hlen, _, hsp, hor, _⟩ := v1
      have := hst.le _ _ hB
      rw [this] at hB'; cases hB'
      have ha' := hor.resolve_left (by omega)
      subst ha'
      simp only [VR, E.den, hν] at v2
      refine elem_region hs h0 h1 h2 g0 g1 g2 p0 p1 p2 q0 q1 q2 hd hz hag e1 v2 hi (hcell w2 H2.below) (Nat.lt_of_lt_of_le hlt.1 hf2.size) (Nat.lt_of_lt_of_le hlt.2.1 hf2.size) ?_
      refine ⟨r', fun v hv => hok v (List.mem_cons_of_mem _ hv), .normal, afterElem mask T x fr, σ, ι, rfl, .refl _ _, H2, ?_, hr'⟩
      exact ((hf2.put hnt (by intro d e; cases e; exact hlt.1) (x := .bad) (by simp only [VR])).put hnt (by intro d e; cases e; exact hlt.2.1) (hx ι)).put hnt (by intro d e; cases e; exact hlt.2.2) (hx ι)
    · cases hk
  · cases hk
end
end Go.Eng
