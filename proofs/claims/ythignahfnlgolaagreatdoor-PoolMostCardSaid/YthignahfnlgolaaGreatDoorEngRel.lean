/- What the symbolic executor's values, memory and frames mean, and the laws of its tries and lists. Conditions: none. -/
import Derived.Test.YthignahfnlgolaaGreatDoorEngDef
namespace Go.Eng
open Go.RowKit (Below)

/-! ## tries -/
section
variable {α : Type}
theorem brec {β : Type} (a b : β) (c : Bool) : (Bool.rec a b c : β) = if c = true then b else a := by cases c <;> rfl
theorem natBeq {a b : Nat} : Nat.beq a b = true ↔ a = b := ⟨Nat.eq_of_beq_eq_true, fun h => by subst h; exact Nat.beq_refl a⟩
theorem natBle {a b : Nat} : Nat.ble a b = true ↔ a ≤ b := ⟨Nat.le_of_ble_eq_true, Nat.ble_eq_true_of_le⟩
theorem natBlt {a b : Nat} : Nat.blt a b = true ↔ a < b := by
  show Nat.ble (a + 1) b = true ↔ _
  rw [natBle]; exact Iff.rfl
@[simp] theorem Tr.get_e (k : Nat) : Tr.get (.e : Tr α) k = none := rfl
@[simp] theorem Tr.get_zero (v : Option α) (l r : Tr α) : Tr.get (.n v l r) 0 = v := rfl
theorem Tr.get_succ (v : Option α) (l r : Tr α) (k : Nat) : Tr.get (.n v l r) (k + 1) = if k % 2 = 0 then l.get (k / 2) else r.get (k / 2) := by
  show (Bool.rec (r.get (k / 2)) (l.get (k / 2)) (Nat.beq (k % 2) 0) : Option α) = _
  rw [brec]
  by_cases h : k % 2 = 0
  · rw [if_pos h, if_pos (by rw [h]; rfl)]
  · rw [if_neg h, if_neg (fun e => h (natBeq.1 e))]
theorem Tr.setN_zero (x : Option α) (t : Tr α) (k : Nat) : Tr.setN x 0 t k = t := rfl
theorem Tr.setN_here (x : Option α) (n : Nat) (t : Tr α) : Tr.setN x (n + 1) t 0 = Tr.here x t := rfl
theorem Tr.setN_sub (x : Option α) (n : Nat) (t : Tr α) (k : Nat) : Tr.setN x (n + 1) t (k + 1) = Tr.sub (Tr.setN x n) k t := rfl
theorem Tr.get_here (x : Option α) (t : Tr α) (j : Nat) : Tr.get (Tr.here x t) j = if j = 0 then x else t.get j := by
  cases t with
  | e => cases j with
    | zero => rfl
    | succ j => show Tr.get (.n x .e .e) (j + 1) = _; rw [Tr.get_succ]; simp
  | n v l r => cases j with
    | zero => rfl
    | succ j => show Tr.get (.n x l r) (j + 1) = _; rw [Tr.get_succ, if_neg (Nat.succ_ne_zero j), Tr.get_succ]
theorem Tr.get_setN (x : Option α) (n : Nat) : ∀ (t : Tr α) (k j : Nat), k + 1 < 2 ^ n → Tr.get (Tr.setN x n t k) j = if j = k then x else t.get j := by
  induction n with
  | zero => intro t k j h; omega
  | succ n ih =>
    intro t k j h
    cases k with
    | zero => rw [Tr.setN_here, Tr.get_here]
    | succ k =>
      have hk : k / 2 + 1 < 2 ^ n := by rw [Nat.pow_succ] at h; omega
      have ih' := fun t j => ih t (k / 2) j hk
      rw [Tr.setN_sub]
      cases t with
      | e =>
        show Tr.get (Bool.rec (.n none .e (Tr.setN x n .e (k / 2))) (.n none (Tr.setN x n .e (k / 2)) .e) (Nat.beq (k % 2) 0) : Tr α) j = _
        rw [brec]
        cases j with
        | zero => split <;> simp
        | succ j =>
          by_cases hp : k % 2 = 0
          · rw [if_pos (by rw [hp]; rfl), Tr.get_succ, ih']
            by_cases hj : j % 2 = 0
            · rw [if_pos hj]
              by_cases e : j = k
              · subst e; simp
              · rw [if_neg (by omega), if_neg (by omega)]; simp
            · rw [if_neg hj, if_neg (by omega)]; simp
          · rw [if_neg (fun e => hp (natBeq.1 e)), Tr.get_succ, ih']
            by_cases hj : j % 2 = 0
            · rw [if_pos hj, if_neg (by omega)]; simp
            · rw [if_neg hj]
              by_cases e : j = k
              · subst e; simp
              · rw [if_neg (by omega), if_neg (by omega)]; simp
      | n v l r =>
        show Tr.get (Bool.rec (.n v l (Tr.setN x n r (k / 2))) (.n v (Tr.setN x n l (k / 2)) r) (Nat.beq (k % 2) 0) : Tr α) j = _
        rw [brec]
        cases j with
        | zero => split <;> simp
        | succ j =>
          rw [Tr.get_succ v l r]
          by_cases hp : k % 2 = 0
          · rw [if_pos (by rw [hp]; rfl), Tr.get_succ, ih']
            by_cases hj : j % 2 = 0
            · rw [if_pos hj, if_pos hj]
              by_cases e : j = k
              · subst e; simp
              · rw [if_neg (by omega), if_neg (by omega)]
            · rw [if_neg hj, if_neg (by omega), if_neg hj]
          · rw [if_neg (fun e => hp (natBeq.1 e)), Tr.get_succ, ih']
            by_cases hj : j % 2 = 0
            · rw [if_pos hj, if_neg (by omega), if_pos hj]
            · rw [if_neg hj, if_neg hj]
              by_cases e : j = k
              · subst e; simp
              · rw [if_neg (by omega), if_neg (by omega)]
theorem Tr.get_set (t : Tr α) (k : Nat) (x : Option α) (j : Nat) (h : k ≤ 500000001) : (t.set k x).get j = if j = k then x else t.get j :=
  Tr.get_setN x 30 t k j (by omega)
theorem Tr.get_keep (f : Nat → α → Bool) (t : Tr α) : ∀ (b s j : Nat), (Tr.keep f t b s).get j = (t.get j).bind fun x => if f (b + s * j) x = true then some x else none := by
  induction t with
  | e => intro b s j; rfl
  | n v l r ihl ihr =>
    intro b s j
    show Tr.get (.n (Option.rec none (fun x => cond (f b x) (some x) none) v) (Tr.keep f l (b + s) (2 * s)) (Tr.keep f r (b + 2 * s) (2 * s))) j = _
    cases j with
    | zero => cases v <;> simp [cond_eq_ite]
    | succ j =>
      rw [Tr.get_succ, Tr.get_succ, ihl, ihr]
      have e1 : j % 2 = 0 → b + s + 2 * s * (j / 2) = b + s * (j + 1) := by
        intro h
        have : j = 2 * (j / 2) := by omega
        rw [Nat.mul_add, Nat.mul_comm 2 s, Nat.mul_assoc, ← this]; omega
      have e2 : ¬ j % 2 = 0 → b + 2 * s + 2 * s * (j / 2) = b + s * (j + 1) := by
        intro h
        have : j = 2 * (j / 2) + 1 := by omega
        have h2 : s * (j + 1) = s * (2 * (j / 2) + 1 + 1) := by rw [← this]
        rw [h2, Nat.mul_add, Nat.mul_add, Nat.mul_comm 2 s, Nat.mul_assoc]; omega
      split
      · rename_i h; rw [e1 h]
      · rename_i h; rw [e2 h]
end

/-! ## lists -/
theorem dropN_eq (n : Nat) (l : List LV) : dropN n l = l.drop n := by
  induction n generalizing l with
  | zero => rfl
  | succ n ih => cases l with
    | nil => rfl
    | cons a t => exact ih t
theorem takeN_eq (n : Nat) (l : List LV) : takeN n l = l.take n := by
  induction n generalizing l with
  | zero => rfl
  | succ n ih => cases l with
    | nil => rfl
    | cons a t => exact congrArg (a :: ·) (ih t)
theorem app_eq (l m : List LV) : app l m = l ++ m := by
  induction l with
  | nil => rfl
  | cons a t ih => exact congrArg (a :: ·) ih
theorem lenL_eq (l : List LV) : lenL l = l.length := by
  induction l with
  | nil => rfl
  | cons a t ih => exact congrArg Nat.succ ih
theorem putL_eq (vs : List LV) (n : Nat) (l : List LV) (h : n ≤ l.length) : putL vs n l = l.take n ++ vs ++ l.drop (n + vs.length) := by
  induction n generalizing l with
  | zero =>
    show app vs (dropN (lenL vs) l) = _
    rw [app_eq, dropN_eq, lenL_eq]; simp
  | succ n ih => cases l with
    | nil => simp at h
    | cons a t =>
      show a :: putL vs n t = _
      rw [ih t (by simpa using h)]
      have : n + 1 + vs.length = (n + vs.length) + 1 := by omega
      rw [this]; simp
theorem nth_eq (i : Nat) (l : List LV) : nth i l = l.getD i .bad := by
  induction i generalizing l with
  | zero => cases l <;> rfl
  | succ i ih => cases l with
    | nil => rfl
    | cons a t => show nth i t = _; rw [ih]; simp
theorem atoms_iff (l : List LV) : atoms l = true ↔ ∀ x ∈ l, atom x = true := by
  induction l with
  | nil => simp [atoms]
  | cons a t ih => simp [atoms, ih]
theorem evs_eq (loc : List LV) (fr : Fr) (l : List X) : evs loc fr l = l.map (ev loc fr) := by
  induction l with
  | nil => rfl
  | cons a t ih => exact congrArg (ev loc fr a :: ·) ih

/-! ## numbers -/
theorem intEq_iff {a b : Int} : intEq a b = true ↔ a = b := by
  cases a with
  | ofNat a => cases b with
    | ofNat b => show Nat.beq a b = true ↔ _; rw [natBeq]; exact ⟨fun h => by rw [h], fun h => by injection h⟩
    | negSucc b => show false = true ↔ _; simp
  | negSucc a => cases b with
    | ofNat b => show false = true ↔ _; simp
    | negSucc b => show Nat.beq a b = true ↔ _; rw [natBeq]; exact ⟨fun h => by rw [h], fun h => by injection h⟩
theorem intEq_eq (a b : Int) : intEq a b = (a == b) := by
  rw [Bool.eq_iff_iff, intEq_iff, beq_iff_eq]
theorem intLe_iff {a b : Int} : intLe a b = true ↔ a ≤ b := by
  cases a with
  | ofNat a => cases b with
    | ofNat b => show Nat.ble a b = true ↔ _; rw [natBle]; exact Int.ofNat_le.symm
    | negSucc b => show false = true ↔ _; constructor <;> intro h <;> first | cases h | (exfalso; have := Int.negSucc_lt_zero b; have : (0 : Int) ≤ Int.ofNat a := Int.natCast_nonneg a; omega)
  | negSucc a => cases b with
    | ofNat b => show true = true ↔ _; constructor <;> intro h <;> first | rfl | (have := Int.negSucc_lt_zero a; have : (0 : Int) ≤ Int.ofNat b := Int.natCast_nonneg b; omega)
    | negSucc b => show Nat.ble b a = true ↔ _; rw [natBle]; omega
theorem kNum_inj {a b : IntKind} (h : kNum a = kNum b) : a = b := by
  cases a <;> cases b <;> first | rfl | exact absurd h (by decide)
theorem kEq_iff {a b : IntKind} : kEq a b = true ↔ a = b := by
  show Nat.beq (kNum a) (kNum b) = true ↔ _
  rw [natBeq]; exact ⟨kNum_inj, fun h => by rw [h]⟩
theorem wrap_in (n : Int) (h0 : -9223372036854775808 ≤ n) (h1 : n < 9223372036854775808) : IntKind.wrap .i64 n = n := by
  simp only [IntKind.wrap, IntKind.bits, IntKind.signed, Bool.true_and]
  split
  · rename_i h; have h := of_decide_eq_true h; omega
  · rename_i h; have h : ¬ _ := fun e => h (decide_eq_true e); omega
theorem wrap64_eq (n : Int) : wrap64 n = IntKind.wrap .i64 n := by
  cases n with
  | ofNat a =>
    show (Bool.rec (IntKind.wrap .i64 (.ofNat a)) (.ofNat a) (Nat.ble a 9223372036854775807) : Int) = _
    rw [brec]; split
    · rename_i h; rw [natBle] at h; rw [wrap_in]
      · have : (0 : Int) ≤ Int.ofNat a := Int.natCast_nonneg a; omega
      · have : Int.ofNat a = (a : Int) := rfl; omega
    · rfl
  | negSucc a =>
    show (Bool.rec (IntKind.wrap .i64 (.negSucc a)) (.negSucc a) (Nat.ble a 9223372036854775807) : Int) = _
    rw [brec]; split
    · rename_i h; rw [natBle] at h; rw [wrap_in]
      · omega
      · have := Int.negSucc_lt_zero a; omega
    · rfl
theorem wrap_eq (k : IntKind) (n : Int) : wrap k n = k.wrap n := by
  show (Bool.rec (IntKind.wrap k n) (wrap64 n) (Nat.beq (kNum k) 3) : Int) = _
  rw [brec]; split
  · rename_i h; rw [natBeq] at h
    have : k = .i64 := kNum_inj h
    subst this; exact wrap64_eq n
  · rfl
/-- what an operation of whole numbers yields (where the model carries it out) -/
def semI (op : BinOp) (k : IntKind) (x y : Int) : Int := match op with
  | .add => k.wrap (x + y)
  | .sub => k.wrap (x - y)
  | .mul => k.wrap (x * y)
  | .quo => k.wrap (x.tdiv y)
  | .rem => x.tmod y
  | .and => k.wrap (BitVec.ofInt k.bits x &&& BitVec.ofInt k.bits y).toNat
  | .or => k.wrap (BitVec.ofInt k.bits x ||| BitVec.ofInt k.bits y).toNat
  | .xor => k.wrap (BitVec.ofInt k.bits x ^^^ BitVec.ofInt k.bits y).toNat
  | .shl => k.wrap (x * 2 ^ (min y.toNat k.bits))
  | .shr => x.fdiv (2 ^ (min y.toNat k.bits))
  | _ => 0
/-- what a comparison of whole numbers yields -/
def semC (op : BinOp) (x y : Int) : Bool := match op with
  | .eql => x == y
  | .neq => x != y
  | .lss => decide (x < y)
  | .leq => decide (x ≤ y)
  | .gtr => decide (x > y)
  | .geq => decide (x ≥ y)
  | _ => false
def E.den (ν : Nat → Int) : E → Int
  | .var i => ν i
  | .lit n => n
  | .bin op k a b => semI op k (E.den ν a) (E.den ν b)
  | .conv k a => k.wrap (E.den ν a)
theorem bNum_inj {a b : BinOp} (h : bNum a = bNum b) : a = b := by
  cases a <;> cases b <;> first | rfl | exact absurd h (by decide)
theorem E.beq_eq {a b : E} (h : E.beq a b = true) : a = b := by
  induction a generalizing b with
  | var i => cases b <;> simp only [E.beq] at h <;> first | (rw [natBeq.1 h]) | cases h
  | lit n => cases b <;> simp only [E.beq] at h <;> first | (rw [intEq_iff.1 h]) | cases h
  | bin o k x y ihx ihy =>
    cases b <;> simp only [E.beq, Bool.and_eq_true] at h <;> try (cases h; done)
    obtain ⟨⟨⟨h1, h2⟩, h3⟩, h4⟩ := h
    rw [bNum_inj (natBeq.1 h1), kEq_iff.1 h2, ihx h3, ihy h4]
  | conv k x ih =>
    cases b <;> simp only [E.beq, Bool.and_eq_true] at h <;> try (cases h; done)
    obtain ⟨h2, h3⟩ := h
    rw [kEq_iff.1 h2, ih h3]
/-- the facts and the rewritings of a configuration hold of the numbers -/
structure Cfg.Holds (C : Cfg) (ν : Nat → Int) : Prop where
  facts : ∀ op a b r, (op, a, b, r) ∈ C.facts → semC op (E.den ν a) (E.den ν b) = r
  rws : ∀ a b, (a, b) ∈ C.rws → E.den ν a = E.den ν b
theorem rewriteE_den {ν : Nat → Int} {x : E} {l : List (E × E)} (h : ∀ a b, (a, b) ∈ l → E.den ν a = E.den ν b) : E.den ν (rewriteE x l) = E.den ν x := by
  induction l with
  | nil => rfl
  | cons p t ih =>
    obtain ⟨a, b⟩ := p
    simp only [rewriteE]
    cases e : E.beq a x with
    | true => rw [cond_true, ← E.beq_eq e]; exact (h a b (List.mem_cons_self ..)).symm
    | false => rw [cond_false]; exact ih fun a b hm => h a b (List.mem_cons_of_mem _ hm)
theorem findFact_mem {op : BinOp} {a b : E} {l : List (BinOp × E × E × Bool)} {r : Bool} (h : findFact op a b l = some r) : (op, a, b, r) ∈ l := by
  induction l with
  | nil => cases h
  | cons p t ih =>
    obtain ⟨o, x, y, z⟩ := p
    simp only [findFact] at h
    cases e : (Nat.beq (bNum o) (bNum op) && E.beq x a && E.beq y b) with
    | true =>
      rw [e, cond_true] at h
      simp only [Bool.and_eq_true] at e
      obtain ⟨⟨h1, h2⟩, h3⟩ := e
      rw [← bNum_inj (natBeq.1 h1), ← E.beq_eq h2, ← E.beq_eq h3, ← Option.some.inj h]
      exact List.mem_cons_self ..
    | false => rw [e, cond_false] at h; exact List.mem_cons_of_mem _ (ih h)

/-! ## what values mean -/
/-- a block of the heap: which one, from which cell on, how many cells it has, how many are known -/
structure Blk where
  blk : Nat
  base : Nat
  n : Nat
  m : Nat
abbrev Inj := Nat → Option Blk

mutual
def VR (ν : Nat → Int) (ι : Inj) : LV → Value → Prop
  | .bad, _ => True
  | .bool b, v => v = .bool b
  | .int k n, v => v = .int k n
  | .sym k x, v => v = .int k (E.den ν x)
  | .str l, v => ∃ s : ByteArray, v = .string s ∧ s.data.toList.map UInt8.toNat = l
  | .ptr b o, v => ∃ B, ι b = some B ∧ v = .pointer (some ⟨B.blk, B.base + o, none⟩)
  | .nilptr, v => v = .pointer none
  | .slice e b o len cap, v => ∃ B a C, ι b = some B ∧ v = .slice (some a) len C ∧ len ≤ C ∧ 0 < e ∧ a.spot = none ∧ (C = 0 ∨ a = ⟨B.blk, B.base + o, none⟩) ∧
      (match cap with | some c => C = c | none => B.m ≤ o + C * e ∧ B.base + o + C * e ≤ B.n)
  | .nilslice, v => v = .slice none 0 0
  | .map r, v => ∃ B, ι r = some B ∧ v = .map (some B.blk)
  | .nilmap, v => v = .map none
  | .func f a b, v => ∃ as bs : Array Value, v = .func (.func f) as bs ∧ VRs ν ι a as.toList ∧ VRs ν ι b bs.toList
  | .nilFunc, v => v = .nilFunc
  | .iface t x, v => ∃ u, v = .iface t u ∧ VR ν ι x u
  | .nilIface, v => v = .nilIface
  | .agg cs, v => ∃ vs : Array Value, v = .agg vs ∧ VRs ν ι cs vs.toList ∧ atoms cs = true
  | .tup cs, v => ∃ vs : Array Value, v = .tuple vs ∧ VRs ν ι cs vs.toList
def VRs (ν : Nat → Int) (ι : Inj) : List LV → List Value → Prop
  | [], l => l = []
  | x :: r, l => ∃ v t, l = v :: t ∧ VR ν ι x v ∧ VRs ν ι r t
end

def Inj.le (ι ι' : Inj) : Prop := ∀ b B, ι b = some B → ι' b = some B
theorem Inj.le_refl (ι : Inj) : ι.le ι := fun _ _ h => h
theorem Inj.le_trans {a b c : Inj} (h : a.le b) (k : b.le c) : a.le c := fun i B e => k i B (h i B e)

section
variable {ν : Nat → Int} {ι ι' : Inj}
mutual
theorem VR.mono (hi : ι.le ι') : ∀ (x : LV) (v : Value), VR ν ι x v → VR ν ι' x v
  | .bad, _, _ => by simp only [VR]
  | .bool b, v, h => by simp only [VR] at h ⊢; exact h
  | .int k n, v, h => by simp only [VR] at h ⊢; exact h
  | .sym k n, v, h => by simp only [VR] at h ⊢; exact h
  | .str l, v, h => by simp only [VR] at h ⊢; exact h
  | .ptr b o, v, h => by
    simp only [VR] at h ⊢
    obtain ⟨B, hB, e⟩ := h; exact ⟨B, hi _ _ hB, e⟩
  | .nilptr, v, h => by simp only [VR] at h ⊢; exact h
  | .slice e b o len cap, v, h => by
    simp only [VR] at h ⊢
    obtain ⟨B, a, C, hB, r⟩ := h; exact ⟨B, a, C, hi _ _ hB, r⟩
  | .nilslice, v, h => by simp only [VR] at h ⊢; exact h
  | .map r, v, h => by
    simp only [VR] at h ⊢
    obtain ⟨B, hB, e⟩ := h; exact ⟨B, hi _ _ hB, e⟩
  | .nilmap, v, h => by simp only [VR] at h ⊢; exact h
  | .func f a b, v, h => by
    simp only [VR] at h ⊢
    obtain ⟨as, bs, e, h1, h2⟩ := h; exact ⟨as, bs, e, VRs.mono hi a _ h1, VRs.mono hi b _ h2⟩
  | .nilFunc, v, h => by simp only [VR] at h ⊢; exact h
  | .iface t x, v, h => by
    simp only [VR] at h ⊢
    obtain ⟨u, e, h1⟩ := h; exact ⟨u, e, VR.mono hi x _ h1⟩
  | .nilIface, v, h => by simp only [VR] at h ⊢; exact h
  | .agg cs, v, h => by
    simp only [VR] at h ⊢
    obtain ⟨vs, e, h1, h2⟩ := h; exact ⟨vs, e, VRs.mono hi cs _ h1, h2⟩
  | .tup cs, v, h => by
    simp only [VR] at h ⊢
    obtain ⟨vs, e, h1⟩ := h; exact ⟨vs, e, VRs.mono hi cs _ h1⟩
theorem VRs.mono (hi : ι.le ι') : ∀ (x : List LV) (v : List Value), VRs ν ι x v → VRs ν ι' x v
  | [], l, h => by simp only [VRs] at h ⊢; exact h
  | x :: r, l, h => by
    simp only [VRs] at h ⊢
    obtain ⟨v, t, e, h1, h2⟩ := h; exact ⟨v, t, e, VR.mono hi x _ h1, VRs.mono hi r _ h2⟩
end
theorem VRs_nil : VRs ν ι [] [] := by simp only [VRs]
theorem VRs_cons {x : LV} {r : List LV} {v : Value} {t : List Value} (h : VR ν ι x v) (k : VRs ν ι r t) : VRs ν ι (x :: r) (v :: t) := by
  simp only [VRs]; exact ⟨v, t, rfl, h, k⟩
theorem VRs_cons_iff {x : LV} {r : List LV} {v : Value} {t : List Value} : VRs ν ι (x :: r) (v :: t) ↔ VR ν ι x v ∧ VRs ν ι r t := by
  simp only [VRs]
  constructor
  · rintro ⟨v', t', e, h, k⟩; injection e with e1 e2; subst e1; subst e2; exact ⟨h, k⟩
  · rintro ⟨h, k⟩; exact ⟨v, t, rfl, h, k⟩
theorem VRs_not {x : LV} {r : List LV} : ¬ VRs ν ι (x :: r) [] := by
  simp only [VRs]; rintro ⟨_, _, e, _⟩; cases e
theorem VRs_nil_iff {l : List Value} : VRs ν ι [] l ↔ l = [] := by simp only [VRs]
theorem VRs.length : ∀ {xs : List LV} {vs : List Value}, VRs ν ι xs vs → xs.length = vs.length
  | [], vs, h => by rw [VRs_nil_iff] at h; subst h; rfl
  | x :: r, [], h => (VRs_not h).elim
  | x :: r, v :: t, h => by rw [VRs_cons_iff] at h; simp [h.2.length]
theorem VRs.append : ∀ {xs ys : List LV} {vs us : List Value}, VRs ν ι xs vs → VRs ν ι ys us → VRs ν ι (xs ++ ys) (vs ++ us)
  | [], ys, vs, us, h, k => by rw [VRs_nil_iff] at h; subst h; exact k
  | x :: r, ys, [], us, h, k => (VRs_not h).elim
  | x :: r, ys, v :: t, us, h, k => by rw [VRs_cons_iff] at h; exact VRs_cons h.1 (h.2.append k)
theorem VRs.drop : ∀ (n : Nat) {xs : List LV} {vs : List Value}, VRs ν ι xs vs → VRs ν ι (xs.drop n) (vs.drop n)
  | 0, xs, vs, h => by simpa using h
  | n + 1, [], vs, h => by rw [VRs_nil_iff] at h; subst h; simpa using VRs_nil
  | n + 1, x :: r, [], h => (VRs_not h).elim
  | n + 1, x :: r, v :: t, h => by rw [VRs_cons_iff] at h; simpa using VRs.drop n h.2
theorem VRs.take : ∀ (n : Nat) {xs : List LV} {vs : List Value}, VRs ν ι xs vs → VRs ν ι (xs.take n) (vs.take n)
  | 0, xs, vs, h => by simpa using VRs_nil
  | n + 1, [], vs, h => by rw [VRs_nil_iff] at h; subst h; simpa using VRs_nil
  | n + 1, x :: r, [], h => (VRs_not h).elim
  | n + 1, x :: r, v :: t, h => by rw [VRs_cons_iff] at h; simpa using VRs_cons h.1 (VRs.take n h.2)
theorem VRs.get : ∀ {xs : List LV} {vs : List Value} (i : Nat) (h : i < xs.length), VRs ν ι xs vs → ∃ v, vs[i]? = some v ∧ VR ν ι xs[i] v
  | x :: r, [], i, _, h => (VRs_not h).elim
  | x :: r, v :: t, 0, _, h => by rw [VRs_cons_iff] at h; exact ⟨v, rfl, h.1⟩
  | x :: r, v :: t, i + 1, hi, h => by
    rw [VRs_cons_iff] at h
    obtain ⟨u, e, k⟩ := VRs.get i (by simpa using hi) h.2
    exact ⟨u, by simpa using e, by simpa using k⟩
theorem nth_lt {xs : List LV} {i : Nat} (h : i < xs.length) : nth i xs = xs[i] := by
  rw [nth_eq, List.getD_eq_getElem?_getD, List.getElem?_eq_getElem h]; rfl
theorem atoms_append {a b : List LV} (h : atoms a = true) (k : atoms b = true) : atoms (a ++ b) = true := by
  rw [atoms_iff] at *; intro x hx; exact (List.mem_append.1 hx).elim (h x) (k x)
theorem atoms_drop {a : List LV} (n : Nat) (h : atoms a = true) : atoms (a.drop n) = true := by
  rw [atoms_iff] at *; exact fun x hx => h x (List.mem_of_mem_drop hx)
theorem atoms_take {a : List LV} (n : Nat) (h : atoms a = true) : atoms (a.take n) = true := by
  rw [atoms_iff] at *; exact fun x hx => h x (List.mem_of_mem_take hx)
theorem atoms_rep {l : List LV} (h : atoms l = true) : ∀ n, atoms (rep l n) = true
  | 0 => rfl
  | n + 1 => atoms_append h (atoms_rep h n)
/-- the cells of a value that may be stored -/
theorem VR.cells {x : LV} {v : Value} (hs : stor x = true) (h : VR ν ι x v) : VRs ν ι x.cells v.cells.toList ∧ atoms x.cells = true := by
  have one : ∀ {y : LV} {u : Value}, atom y = true → VR ν ι y u → VRs ν ι [y] [u] ∧ atoms [y] = true :=
    fun ha k => ⟨VRs_cons k VRs_nil, by simp [atoms, ha]⟩
  cases x
  case bad => exact absurd hs Bool.false_ne_true
  case tup => exact absurd hs Bool.false_ne_true
  case agg cs =>
    simp only [VR] at h
    obtain ⟨vs, rfl, h1, h2⟩ := h
    exact ⟨h1, h2⟩
  all_goals
    have h' := h
    simp only [VR] at h'
    have hc : v.cells.toList = [v] := by
      first
        | (subst h'; rfl)
        | (obtain ⟨_, rfl, _⟩ := h'; rfl)
        | (obtain ⟨_, _, rfl⟩ := h'; rfl)
        | (obtain ⟨_, _, rfl, _⟩ := h'; rfl)
        | (obtain ⟨_, _, _, _, rfl, _⟩ := h'; rfl)
    rw [hc]
    exact one rfl h
/-- a value of a cell can be written into one -/
def cellV (v : Value) : Prop := match v with
  | .agg _ | .tuple _ => False
  | _ => True
theorem VR.cellV {x : LV} {v : Value} (ha : atom x = true) (h : VR ν ι x v) : cellV v := by
  cases x
  case bad => exact absurd ha Bool.false_ne_true
  case agg => exact absurd ha Bool.false_ne_true
  case tup => exact absurd ha Bool.false_ne_true
  all_goals
    simp only [VR] at h
    first
      | (subst h; trivial)
      | (obtain ⟨_, rfl, _⟩ := h; trivial)
      | (obtain ⟨_, _, rfl⟩ := h; trivial)
      | (obtain ⟨_, _, rfl, _⟩ := h; trivial)
      | (obtain ⟨_, _, _, _, rfl, _⟩ := h; trivial)
mutual
theorem ofValue_VR : ∀ (v : Value), VR ν ι (LV.ofValue v) v
  | .bool b => by simp only [LV.ofValue, VR]
  | .int k n => by simp only [LV.ofValue, VR]
  | .string s => by simp only [LV.ofValue, VR]; exact ⟨s, rfl, rfl⟩
  | .pointer none => by simp only [LV.ofValue, VR]
  | .pointer (some a) => by simp only [LV.ofValue, VR]
  | .slice none 0 0 => by simp only [LV.ofValue, VR]
  | .slice none 0 (n + 1) => by simp only [LV.ofValue, VR]
  | .slice none (n + 1) m => by simp only [LV.ofValue, VR]
  | .slice (some a) n m => by simp only [LV.ofValue, VR]
  | .map none => by simp only [LV.ofValue, VR]
  | .map (some r) => by simp only [LV.ofValue, VR]
  | .nilFunc => by simp only [LV.ofValue, VR]
  | .nilIface => by simp only [LV.ofValue, VR]
  | .agg ⟨cs⟩ => by
    have k := ofValues_VRs cs
    simp only [LV.ofValue]
    cases e : atoms (LV.ofValues cs) with
    | false => rw [cond_false]; simp only [VR]
    | true => rw [cond_true]; simp only [VR]; exact ⟨⟨cs⟩, rfl, k, e⟩
  | .tuple ⟨cs⟩ => by
    simp only [LV.ofValue, VR]
    exact ⟨⟨cs⟩, rfl, ofValues_VRs cs⟩
  | .float .. => by simp only [LV.ofValue, VR]
  | .complex .. => by simp only [LV.ofValue, VR]
  | .chan _ => by simp only [LV.ofValue, VR]
  | .func .. => by simp only [LV.ofValue, VR]
  | .iface .. => by simp only [LV.ofValue, VR]
theorem ofValues_VRs : ∀ (vs : List Value), VRs ν ι (LV.ofValues vs) vs
  | [] => by simp only [LV.ofValues, VRs]
  | v :: r => by simp only [LV.ofValues]; exact VRs_cons (ofValue_VR v) (ofValues_VRs r)
end
end

end Go.Eng
