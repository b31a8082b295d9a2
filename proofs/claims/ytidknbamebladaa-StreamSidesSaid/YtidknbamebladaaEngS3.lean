/- A law over a slice of whole numbers: its code up to the loop, by each length; what elements may be. Conditions: none. -/
import Derived.Test.YtidknbamebladaaEngS2
import Derived.ChangeMaps5
import Derived.WideShapes
namespace Go.Eng
open Go.RowKit (Below)
noncomputable section
def hL (c : Code) : Option Nat := match c with | .loop _ => some 0 | _ => none
def hE (id : Nat) (c : Code) : Option Nat := match c with | .region i _ _ => cond (Nat.beq i id) (some 1) none | _ => none
def loopOf (l : List (Nat × Code)) : Code := match l with | (_, .loop x) :: _ => x | _ => .skip
def opsOf (l : List (Nat × Code)) : Array Oper := match l with | (_, .region _ ops _) :: _ => ops | _ => #[]
def both (a b : Option Unit) : Option Unit := match a with | some _ => (match b with | some _ => some () | none => none) | none => none
def entryOk (T : LT) (n : Nat) (s : AS) (fr : Fr) : Bool := LV.beq (slN n) (getV (fr.get T.ts)) && LV.beq (.int .i64 (.ofNat n)) (getV (fr.get T.tl)) && LV.beq (.int .i64 0) (getV (fr.get T.ti)) && fits1 fr s
/-- behind the loop, or out of it with true -/
def goOn (T : LT) (σ : St) (k : ExK Unit) : Option Unit := both (k (.exit T.xid) .e σ) (k .ret (mkFr [(T.tr, .bool true)]) σ)
def allN (n : Nat) (f : Nat → Bool) : Bool := Nat.rec true (fun i ih => cond (f i) ih false) n
def isSm (o : Option Unit) : Bool := match o with | some _ => true | none => false
def cfg0 (P : Program) (mask : Nat) : Cfg := ⟨P, fun _ => mask, fun _ => none, [], []⟩
def lawF (P : Program) (mask nt : Nat) (c : Code) (res : List RV) (hd : HK Unit) (arg : LV) : Option Unit :=
  runH (cfg0 P mask) (call (cfg0 P mask) 1000 50) 1000 hd (compH P mask nt hL c) (frameOf mask .e 0 [arg]) ⟨.e, 1⟩ (retK res isTrue)
end
theorem allN_mem {f : Nat → Bool} : ∀ {n : Nat}, allN n f = true → ∀ i, i < n → f i = true
  | 0, _, i, hi => by omega
  | n + 1, h, i, hi => by
    have h : cond (f n) (allN n f) false = true := h
    cases e : f n with
    | false => rw [e] at h; cases h
    | true =>
      rw [e, cond_true] at h
      by_cases q : i = n
      · rw [q]; exact e
      · exact allN_mem h i (by omega)
theorem cfg0_holds {P : Program} {mask : Nat} {ν : Nat → Int} : (cfg0 P mask).Holds ν := ⟨fun _ _ _ _ h => (by cases h), fun _ _ h => (by cases h)⟩

/-! ## what an element may be -/
def modE : E := .bin .rem .i64 (.bin .add .i64 (.bin .rem .i64 (.var 0) (.lit 5)) (.lit 5)) (.lit 5)
def bitE (b : Int) : E := .bin .and .i64 (.var 0) (.lit b)
def ecs : List EC := [0, 1, 2, 3, 4].flatMap fun k => [0, 8].flatMap fun a => [0, 16].map fun b => ⟨[], [(modE, .lit k), (bitE 8, .lit a), (bitE 16, .lit b)]⟩
theorem bit_case (x : Int) (i : Nat) (hi : i < 62) : semI .and .i64 x (2 ^ i : Nat) = 0 ∨ semI .and .i64 x (2 ^ i : Nat) = (2 ^ i : Nat) := by
  have h2 : (2 : Nat) ^ i < 2 ^ 62 := Nat.pow_lt_pow_right (by omega) hi
  have e : (BitVec.ofInt 64 x &&& BitVec.ofInt 64 ((2 ^ i : Nat) : Int)).toNat = ((BitVec.ofInt 64 x).toNat.testBit i).toNat * 2 ^ i := by
    rw [BitVec.toNat_and]
    have : (BitVec.ofInt 64 ((2 ^ i : Nat) : Int)).toNat = 2 ^ i := by
      rw [BitVec.ofInt_natCast, BitVec.toNat_ofNat]
      exact Nat.mod_eq_of_lt (by omega)
    rw [this]
    apply Nat.eq_of_testBit_eq
    intro j
    rw [Nat.testBit_and, Nat.testBit_two_pow]
    by_cases q : i = j
    · subst q
      cases (BitVec.ofInt 64 x).toNat.testBit i with
      | false => simp
      | true => simp [Nat.testBit_two_pow]
    · rw [decide_eq_false q, Bool.and_false]
      cases (BitVec.ofInt 64 x).toNat.testBit i with
      | false => simp
      | true => simp [Nat.testBit_two_pow, q]
  show IntKind.wrap .i64 (((BitVec.ofInt 64 x &&& BitVec.ofInt 64 ((2 ^ i : Nat) : Int)).toNat : Nat) : Int) = 0 ∨ IntKind.wrap .i64 (((BitVec.ofInt 64 x &&& BitVec.ofInt 64 ((2 ^ i : Nat) : Int)).toNat : Nat) : Int) = _
  rw [e]
  cases (BitVec.ofInt 64 x).toNat.testBit i with
  | false => left; simp only [Bool.toNat_false, Nat.zero_mul]; rfl
  | true => right; rw [Bool.toNat_true, Nat.one_mul]; generalize 2 ^ i = p at h2 ⊢; exact wrap_in _ (by omega) (by omega)
theorem mod_case (x : Int) : ∃ k ∈ ([0, 1, 2, 3, 4] : List Int), semI .rem .i64 (semI .add .i64 (semI .rem .i64 x 5) 5) 5 = k := by
  have h1 := Int.tmod_lt_of_pos x (show (0 : Int) < 5 by omega)
  have h2 := Int.lt_tmod_of_pos x (show (0 : Int) < 5 by omega)
  simp only [semI]
  rw [wrap_in _ (by omega) (by omega)]
  have : x.tmod 5 = -4 ∨ x.tmod 5 = -3 ∨ x.tmod 5 = -2 ∨ x.tmod 5 = -1 ∨ x.tmod 5 = 0 ∨ x.tmod 5 = 1 ∨ x.tmod 5 = 2 ∨ x.tmod 5 = 3 ∨ x.tmod 5 = 4 := by omega
  rcases this with e | e | e | e | e | e | e | e | e <;> rw [e] <;> decide
theorem ecs_case (x : Int) : ∃ e ∈ ecs, ∀ ν : Nat → Int, ν 0 = x → (∀ op a b r, (op, a, b, r) ∈ e.facts → semC op (E.den ν a) (E.den ν b) = r) ∧ ∀ a b, (a, b) ∈ e.rws → E.den ν a = E.den ν b := by
  obtain ⟨k, hk, hk2⟩ := mod_case x
  have h8 := bit_case x 3 (by omega)
  have h16 := bit_case x 4 (by omega)
  obtain ⟨p, hp, hp2⟩ : ∃ p ∈ ([0, 8] : List Int), semI .and .i64 x 8 = p := by
    rcases h8 with h | h
    · exact ⟨0, by simp, h⟩
    · exact ⟨8, by simp, h⟩
  obtain ⟨q, hq, hq2⟩ : ∃ q ∈ ([0, 16] : List Int), semI .and .i64 x 16 = q := by
    rcases h16 with h | h
    · exact ⟨0, by simp, h⟩
    · exact ⟨16, by simp, h⟩
  refine ⟨⟨[], [(modE, .lit k), (bitE 8, .lit p), (bitE 16, .lit q)]⟩, ?_, ?_⟩
  · simp only [ecs, List.mem_flatMap, List.mem_map]
    exact ⟨k, hk, p, hp, q, hq, rfl⟩
  · intro ν hν
    refine ⟨fun _ _ _ _ h => (by cases h), ?_⟩
    intro a b h
    simp only [List.mem_cons, List.not_mem_nil, or_false, Prod.mk.injEq] at h
    rcases h with ⟨rfl, rfl⟩ | ⟨rfl, rfl⟩ | ⟨rfl, rfl⟩
    · simp only [modE, E.den, hν]; exact hk2
    · simp only [bitE, E.den, hν]; exact hp2
    · simp only [bitE, E.den, hν]; exact hq2

/-! ## the call -/
section
variable {P : Program}
/-- the slice, as the executor knows it -/
def Held (W : World) (v : Value) (n : Nat) (xs : Nat → Int) (B : Blk) : Prop :=
  ∃ C, v = .slice (some ⟨B.blk, B.base, none⟩) n C ∧ n ≤ C ∧ B.blk < W.heap.size ∧ B.m = 0 ∧ B.n = B.base + C ∧ ∀ i, i < n → W.cell? ((⟨B.blk, B.base, none⟩ : Addr).add i) = some (.int .i64 (xs i))
def inj0 (B : Blk) : Inj := fun b => if b = 0 then some B else none
theorem Held.vr {W : World} {v : Value} {n : Nat} {xs : Nat → Int} {B : Blk} (h : Held W v n xs B) (ν : Nat → Int) {ι : Inj} (hι : ι 0 = some B) : VR ν ι (slN n) v := by
  obtain ⟨C, rfl, h1, h2, h3, h4, _⟩ := h
  simp only [slN, VR]
  exact ⟨B, _, C, hι, rfl, h1, by omega, rfl, .inr rfl, by omega, by omega⟩
theorem rep0 {W w : World} {B : Blk} {base : Nat} (hbe : Below base W w) (hba : base ≤ w.heap.size) (hB : B.blk < w.heap.size) (ν : Nat → Int) : Rep ν base W ⟨.e, 1⟩ (inj0 B) w := by
  refine ⟨hbe, hba, fun b o h => (by cases h), ?_, ?_, fun b cs c s h => (by cases h), fun b b' o o' B B' _ h => (by cases h), by decide⟩
  · intro b B' h
    show b < 1
    unfold inj0 at h
    split at h
    · omega
    · cases h
  · intro b B' h
    unfold inj0 at h
    split at h
    · cases h; exact hB
    · cases h
theorem Held.cell {W w : World} {v : Value} {n : Nat} {xs : Nat → Int} {B : Blk} (h : Held W v n xs B) (hb : Below W.heap.size W w) : ∀ i, i < n → w.cell? ((⟨B.blk, B.base, none⟩ : Addr).add i) = some (.int .i64 (xs i)) := by
  obtain ⟨C, rfl, h1, h2, h3, h4, hc⟩ := h
  intro i hi
  rw [← hc i hi]
  have e : ((⟨B.blk, B.base, none⟩ : Addr).add i).block = B.blk := by unfold Addr.add; split <;> rfl
  unfold World.cell?
  rw [e, hb.block _ h2]
theorem law_ints (hnum : ∀ (f : Nat) fn, P.funcs[f]? = some fn → (fn.name == "runtime.NumGoroutine") = false) {f : Nat} {fn : Func} {c : Code} {mask : Nat} (hfn : P.funcs[f]? = some fn) (hbody : fn.body = some c) (hnt : fn.ntmps ≤ 100000)
    {hd : HK Unit} {W : World} {v : Value} {n : Nat} {xs : Nat → Int} {B : Blk} (hv : Held W v n xs B)
    (hh : ∀ i x, (i, x) ∈ holes hL c → HoleOk P (fun _ => 0) W.heap.size W mask fn.ntmps (fun _ : Unit => True) (inj0 B) W x (hd i))
    (hk : isSm (lawF P mask fn.ntmps c (fn.results.toList.map (cRes P)) hd (slN n)) = true) : Calls P f #[v] W fun e W' => e = .returned (.bool true) ∧ Below W.heap.size W W' := by
  unfold isSm at hk
  split at hk
  · rename_i u hu
    have hBlk : B.blk < W.heap.size := by obtain ⟨C, h⟩ := hv; exact h.2.2.1
    refine (callH_ok (ok := fun _ : Unit => True) (C := cfg0 P mask) cfg0_holds rfl (noPrims cfg0_holds rfl hnum (fun _ => rfl) 1000 50) hfn hbody hnt (hd := hd) (k := isTrue) (r := u) trivial (args := [slN n]) (by simp) hh hu
      (rep0 (Below.refl _ _) (Nat.le_refl _) hBlk _) (VRs_cons (hv.vr _ (by simp [inj0])) VRs_nil)).mono fun e w' he => ?_
    obtain ⟨r', _, u', rfl, x, σ', ι', _, hrep, hx, hx2⟩ := he
    unfold isTrue at hx2
    split at hx2
    · simp only [VR] at hx; subst hx; exact ⟨rfl, hrep.below⟩
    · cases hx2
  · cases hk
/-- the loop's place in the law: what is to be shown of it -/
theorem loop_hole {x : Code} {mask nt : Nat} {T : LT} {base : Nat} {W : World} {ι0 : Inj} {w0 : World} {H : Fr → St → ExK Unit → Option Unit} {ν : Nat → Int} (ht : Nat.testBit mask T.tr = true) (htr : T.tr ≤ 100000)
    (h : ∀ (fr : Fr) (σ : St) (k : ExK Unit) (r : Unit) (a : Act) (w : World) (ι : Inj), H fr σ k = some r → Step ι0 w0 ι w → Rep ν base W σ ι w → FrOk ν ι mask nt fr a →
      goOn T σ k = some () ∧ ∀ Q : Exit → Act → World → Prop, (∀ a' w', a'.defers = [] → nt ≤ a'.tmps.size → Below w.heap.size w w' → Q (.exit T.xid) a' w') →
        (∀ a' w', a'.defers = [] → nt ≤ a'.tmps.size → a'.tmps.getD T.tr undef = .bool true → Below w.heap.size w w' → Q .ret a' w') → (Code.loop x).wp P Q a w) :
    HoleOk P ν base W mask nt (fun _ : Unit => True) ι0 w0 (.loop x) H := by
  intro fr σ k r a w ι hk _ hst Hr hf
  obtain ⟨hg, hw⟩ := h fr σ k r a w ι hk hst Hr hf
  unfold goOn both at hg
  split at hg
  · rename_i u1 hk1
    split at hg
    · rename_i u2 hk2
      refine hw _ ?_ ?_
      · intro a' w' hd hs hb
        obtain ⟨r1, r2⟩ := Hr.kept hb
        exact ⟨u1, trivial, .exit T.xid, .e, σ, ι, rfl, r2, r1, ⟨hd, hs, fun t v h => (by cases h), fun t v h => (by cases h)⟩, hk1⟩
      · intro a' w' hd hs hv hb
        obtain ⟨r1, r2⟩ := Hr.kept hb
        refine ⟨u2, trivial, .ret, _, σ, ι, rfl, r2, r1, mkFr_ok (l := [(T.tr, .bool true)]) ?_ hd hs ?_, hk2⟩
        · simp only [keysOk, List.all_cons, List.all_nil, Bool.and_true, Bool.and_eq_true]; exact ⟨ht, natBle.2 htr⟩
        · intro p hp
          simp only [List.mem_singleton] at hp
          subst hp
          show VR ν ι (.bool true) _
          rw [hv]; simp only [VR]
    · cases hg
  · cases hg
end
end Go.Eng
