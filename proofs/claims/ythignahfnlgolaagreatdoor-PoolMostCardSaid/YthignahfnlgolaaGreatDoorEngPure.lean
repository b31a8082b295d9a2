/- The symbolic executor's operations that do not write follow the model's. Conditions: none. -/
import Derived.Test.YthignahfnlgolaaGreatDoorEngCell
import Derived.Laws.Entries
namespace Go.Eng
open Go.RowKit (Below)
section
variable {ν : Nat → Int} {base : Nat} {W w : World} {σ : St} {ι : Inj} {R : Type} {P : Program} {C : Cfg}

/-- what is computed without a write: a value that the executor goes on with -/
def PGood (P : Program) (ν : Nat → Int) (ι : Inj) (w : World) (s : Sem Value) (k : LV → Option R) (r : R) : Prop :=
  ∃ x u, k x = some r ∧ VR ν ι x u ∧ s.run P w = .ok u w
theorem PGood.of {s : Sem Value} {k : LV → Option R} {r : R} {x : LV} {u : Value} (h : k x = some r) (hv : VR ν ι x u) (hr : s.run P w = .ok u w) : PGood P ν ι w s k r := ⟨x, u, h, hv, hr⟩

/-! ## types -/
theorem und_run {t : TypeId} {d : TypeDesc} (h : und P t = some d) : (Go.underlying t).run P w = .ok d w := run_underlying h w
theorem und_info {t : TypeId} {d : TypeDesc} (h : und P t = some d) : ∃ i, P.info? t = some i := by
  unfold und Program.underlying at h
  cases e : P.info? t with
  | none => rw [e] at h; cases h
  | some i => exact ⟨i, rfl⟩
theorem info_run {t : TypeId} {i : TypeInfo} (h : P.info? t = some i) : (Go.typeInfo t).run P w = .ok i w := by
  simp [Go.typeInfo, h]
theorem size_run' {t : TypeId} {i : TypeInfo} (h : P.info? t = some i) : (Go.sizeOf t).run P w = .ok (sizeOf P t) w := by
  simp [Go.sizeOf, info_run h, sizeOf, h]
theorem size_run {t : TypeId} (h : sizeOf P t ≠ 0) : (Go.sizeOf t).run P w = .ok (sizeOf P t) w := by
  cases e : P.info? t with
  | none => exact absurd (by simp [sizeOf, e]) h
  | some i => exact size_run' e
theorem size_und {t : TypeId} {d : TypeDesc} (h : und P t = some d) : (Go.sizeOf t).run P w = .ok (sizeOf P t) w := by
  obtain ⟨i, hi⟩ := und_info h; exact size_run' hi
theorem agg_run {t : TypeId} {b : Bool} (h : agg? P t = some b) : (Go.isAgg t).run P w = .ok b w ∧ ∃ d, und P t = some d := by
  unfold agg? at h
  split at h
  · rename_i e; cases h; exact ⟨by simp [Go.isAgg, und_run e], _, e⟩
  · rename_i e; cases h; exact ⟨by simp [Go.isAgg, und_run e], _, e⟩
  · rename_i d h1 h2 e
    cases h
    refine ⟨?_, _, e⟩
    simp only [Go.isAgg, Sem.run_bind, und_run e, Result.andThen_ok]
    rfl
  · cases h
theorem zero_run {t : TypeId} {z : LV} (h : zeroOf P t = some z) : ∃ v, (Go.zeroValue t).run P w = .ok v w ∧ VR ν ι z v ∧ VRs ν ι z.cells v.cells.toList ∧ atoms z.cells = true := by
  unfold zeroOf at h
  split at h
  · rename_i i hi
    split at h
    · rename_i v hv
      obtain ⟨h1, h2⟩ := cond_some h
      cases h2
      have hvr : VR ν ι (LV.ofValue v) v := ofValue_VR v
      refine ⟨v, by simp [Go.zeroValue, info_run hi, hv], hvr, ?_, h1⟩
      have hs : stor (LV.ofValue v) = true := by
        cases e : LV.ofValue v <;> rw [e] at h1 <;> first | rfl | (simp [LV.cells, atoms, atom] at h1)
      exact (hvr.cells hs).1
    · cases h
  · cases h

/-! ## memory -/
theorem rLoad1_ok (h : Rep ν base W σ ι w) {t : TypeId} {x : LV} {v : Value} {k : LV → Option R} {r : R} (ht : agg? P t = some false) (hx : VR ν ι x v)
    (hk : rLoad1 σ x k = some r) : PGood P ν ι w (Instr.loadAt t v) k r := by
  unfold rLoad1 at hk
  split at hk
  · simp only [VR] at hx
    obtain ⟨B, hB, rfl⟩ := hx
    obtain ⟨B', y, u, hB', hk, hv, _, hc⟩ := ld1_ok h hk
    rw [hB] at hB'; cases hB'
    refine .of hk hv ?_
    simp [Instr.loadAt, Instr.sureAddr, loadVar, (agg_run (w := w) ht).1, hc]
  · cases hk
theorem rLoadN_ok (h : Rep ν base W σ ι w) {t : TypeId} {x : LV} {v : Value} {k : LV → Option R} {r : R} (ht : agg? P t = some true) (hx : VR ν ι x v)
    (hk : rLoadN σ (sizeOf P t) x k = some r) : PGood P ν ι w (Instr.loadAt t v) k r := by
  unfold rLoadN at hk
  split at hk
  · simp only [VR] at hx
    obtain ⟨B, hB, rfl⟩ := hx
    obtain ⟨B', cs, us, hB', hk, hv, ha, hl, hr, _⟩ := ldCells_ok (P := P) h hk
    rw [hB] at hB'; cases hB'
    obtain ⟨hagg, d, hd⟩ := agg_run (w := w) ht
    refine .of hk (u := .agg us.toArray) ?_ ?_
    · simp only [VR]; exact ⟨_, rfl, by simpa using hv, ha⟩
    · simp [Instr.loadAt, Instr.sureAddr, loadVar, hagg, size_und (w := w) hd, hr]
  · cases hk

/-! ## numbers -/
theorem mkSym_VR (hC : C.Holds ν) (kd : IntKind) (x : E) : VR ν ι (mkSym C kd x) (.int kd (E.den ν x)) := by
  have h := rewriteE_den (x := x) hC.rws
  unfold mkSym
  split
  · rename_i n e; rw [e] at h; simp only [VR]; rw [← h]; rfl
  · simp only [VR]; rw [h]
theorem and_wrap (kd : IntKind) (a b : Nat) : kd.wrap (BitVec.ofInt kd.bits (Int.ofNat a) &&& BitVec.ofInt kd.bits (Int.ofNat b)).toNat = kd.wrap (Int.ofNat (Nat.land a b)) := by
  have h : (BitVec.ofInt kd.bits (Int.ofNat a) &&& BitVec.ofInt kd.bits (Int.ofNat b)).toNat = (a &&& b) % 2 ^ kd.bits := by
    rw [BitVec.toNat_and]
    have e : ∀ n : Nat, (BitVec.ofInt kd.bits (Int.ofNat n)).toNat = n % 2 ^ kd.bits := by
      intro n; simp
    rw [e, e]; exact (Nat.and_mod_two_pow ..).symm
  rw [h]
  unfold IntKind.wrap
  have : (((a &&& b) % 2 ^ kd.bits : Nat) : Int) % (2 ^ kd.bits : Int) = (Int.ofNat (Nat.land a b)) % (2 ^ kd.bits : Int) := by
    rw [Int.natCast_emod]; simp
  rw [this]
theorem or_wrap (kd : IntKind) (a b : Nat) : kd.wrap (BitVec.ofInt kd.bits (Int.ofNat a) ||| BitVec.ofInt kd.bits (Int.ofNat b)).toNat = kd.wrap (Int.ofNat (Nat.lor a b)) := by
  have h : (BitVec.ofInt kd.bits (Int.ofNat a) ||| BitVec.ofInt kd.bits (Int.ofNat b)).toNat = (a ||| b) % 2 ^ kd.bits := by
    rw [BitVec.toNat_or]
    have e : ∀ n : Nat, (BitVec.ofInt kd.bits (Int.ofNat n)).toNat = n % 2 ^ kd.bits := by
      intro n; simp
    rw [e, e]; exact (Nat.or_mod_two_pow ..).symm
  rw [h]
  unfold IntKind.wrap
  have : (((a ||| b) % 2 ^ kd.bits : Nat) : Int) % (2 ^ kd.bits : Int) = (Int.ofNat (Nat.lor a b)) % (2 ^ kd.bits : Int) := by
    rw [Int.natCast_emod]; simp
  rw [this]
theorem xor_wrap (kd : IntKind) (a b : Nat) : kd.wrap (BitVec.ofInt kd.bits (Int.ofNat a) ^^^ BitVec.ofInt kd.bits (Int.ofNat b)).toNat = kd.wrap (Int.ofNat (Nat.xor a b)) := by
  have h : (BitVec.ofInt kd.bits (Int.ofNat a) ^^^ BitVec.ofInt kd.bits (Int.ofNat b)).toNat = (a ^^^ b) % 2 ^ kd.bits := by
    rw [BitVec.toNat_xor]
    have e : ∀ n : Nat, (BitVec.ofInt kd.bits (Int.ofNat n)).toNat = n % 2 ^ kd.bits := by
      intro n; simp
    rw [e, e]; exact (Nat.xor_mod_two_pow ..).symm
  rw [h]
  unfold IntKind.wrap
  have : (((a ^^^ b) % 2 ^ kd.bits : Nat) : Int) % (2 ^ kd.bits : Int) = (Int.ofNat (Nat.xor a b)) % (2 ^ kd.bits : Int) := by
    rw [Int.natCast_emod]; simp
  rw [this]

def binS (op : BinOp) (t : TypeId) (x y : Operand) (u v : Value) : Sem Value := do eqGuard op t x y u v; binOp op t u v
theorem VR_int {k : IntKind} {n : Int} : VR ν ι (.int k n) (.int k n) := by simp only [VR]
theorem VR_bool {b : Bool} : VR ν ι (.bool b) (.bool b) := by simp only [VR]
theorem fdiv_nat (a n : Nat) : (a : Int).fdiv (2 ^ n) = ((a.div (2 ^ n) : Nat) : Int) := by
  rw [Int.fdiv_eq_ediv_of_nonneg _ (Int.le_of_lt (Int.pow_pos (by decide)))]
  rw [show (2 : Int) ^ n = ((2 ^ n : Nat) : Int) by simp]; rfl
theorem not_le' (a b : Int) : (!decide (b ≤ a)) = decide (a < b) := by rw [Bool.eq_iff_iff]; simp
theorem intLe_eq (a b : Int) : intLe a b = decide (a ≤ b) := by rw [Bool.eq_iff_iff, intLe_iff, decide_eq_true_iff]
theorem binInt_ok {op : BinOp} {kd k' : IntKind} {a b : Int} {t : TypeId} {x y : Operand} {k : LV → Option R} {r : R} (hkd : kd = k' ∨ isShift op = true)
    (hk : binInt op kd a b k = some r) : PGood P ν ι w (binS op t x y (.int kd a) (.int k' b)) k r := by
  have hg : (eqGuard op t x y (.int kd a) (.int k' b)) = pure () := eqGuard_at_int ..
  unfold binS
  rw [hg]
  simp only [pure_bind]
  cases op <;> simp only [binInt] at hk
  case shl =>
    unfold shlI at hk; split at hk
    · rename_i b'; refine .of hk VR_int ?_
      simp [binOp, Op.shift, wrap_eq, show ¬ ((b' : Int) < 0) by omega]
    · cases hk
  case shr =>
    unfold shrI at hk; split at hk
    · rename_i a' b'; refine .of hk VR_int ?_
      simp [binOp, Op.shift, show ¬ ((b' : Int) < 0) by omega, fdiv_nat]
    · cases hk
  all_goals
    obtain rfl : kd = k' := by simpa [isShift] using hkd
  case add => exact .of hk VR_int (by simp [binOp, Op.intArith, wrap_eq])
  case sub => exact .of hk VR_int (by simp [binOp, Op.intArith, wrap_eq]; rfl)
  case mul => exact .of hk VR_int (by simp [binOp, Op.intArith, wrap_eq])
  case quo =>
    unfold quoI at hk
    cases e : intEq b 0 with
    | true => rw [e] at hk; cases hk
    | false =>
      rw [e] at hk
      have hb : b ≠ 0 := fun h => by rw [intEq_iff.2 h] at e; cases e
      exact .of hk VR_int (by simp [binOp, Op.intDiv, wrap_eq, hb])
  case rem =>
    unfold remI at hk
    cases e : intEq b 0 with
    | true => rw [e] at hk; cases hk
    | false =>
      rw [e] at hk
      have hb : b ≠ 0 := fun h => by rw [intEq_iff.2 h] at e; cases e
      exact .of hk VR_int (by simp [binOp, Op.intDiv, hb])
  case and =>
    unfold bitI at hk; split at hk
    · rename_i a' b'; obtain ⟨_, hk⟩ := cond_some hk; exact .of hk VR_int (by rw [show binOp .and t (.int kd (.ofNat a')) (.int kd (.ofNat b')) = Op.intBits .and kd (.ofNat a') (.ofNat b') by simp [binOp], wrap_eq, ← and_wrap]; rfl)
    · cases hk
  case or =>
    unfold bitI at hk; split at hk
    · rename_i a' b'; obtain ⟨_, hk⟩ := cond_some hk; exact .of hk VR_int (by rw [show binOp .or t (.int kd (.ofNat a')) (.int kd (.ofNat b')) = Op.intBits .or kd (.ofNat a') (.ofNat b') by simp [binOp], wrap_eq, ← or_wrap]; rfl)
    · cases hk
  case xor =>
    unfold bitI at hk; split at hk
    · rename_i a' b'; obtain ⟨_, hk⟩ := cond_some hk; exact .of hk VR_int (by rw [show binOp .xor t (.int kd (.ofNat a')) (.int kd (.ofNat b')) = Op.intBits .xor kd (.ofNat a') (.ofNat b') by simp [binOp], wrap_eq, ← xor_wrap]; rfl)
    · cases hk
  case eql => exact .of hk VR_bool (by rw [show binOp .eql t (.int kd a) (.int kd b) = Op.intCmp .eql a b by simp [binOp]]; simp [Op.intCmp, intEq_eq])
  case neq => exact .of hk VR_bool (by rw [show binOp .neq t (.int kd a) (.int kd b) = Op.intCmp .neq a b by simp [binOp]]; simp [Op.intCmp, intEq_eq, bne])
  case lss => exact .of hk VR_bool (by rw [show binOp .lss t (.int kd a) (.int kd b) = Op.intCmp .lss a b by simp [binOp]]; simp [Op.intCmp, intLe_eq, not_le', -decide_eq_true_eq])
  case leq => exact .of hk VR_bool (by rw [show binOp .leq t (.int kd a) (.int kd b) = Op.intCmp .leq a b by simp [binOp]]; simp [Op.intCmp, intLe_eq, not_le', -decide_eq_true_eq])
  case gtr => exact .of hk VR_bool (by rw [show binOp .gtr t (.int kd a) (.int kd b) = Op.intCmp .gtr a b by simp [binOp]]; simp [Op.intCmp, intLe_eq, not_le', -decide_eq_true_eq])
  case geq => exact .of hk VR_bool (by rw [show binOp .geq t (.int kd a) (.int kd b) = Op.intCmp .geq a b by simp [binOp]]; simp [Op.intCmp, intLe_eq, not_le', -decide_eq_true_eq])
  case andNot => cases hk
end
end Go.Eng
