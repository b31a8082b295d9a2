/- The symbolic executor's operators follow the model's: numbers that are not known, strings, comparisons with nil. Conditions: none. -/
import Derived.Test.YthignahfnlgolaaGreatDoorEngPure
import Derived.Laws.Strings
import Derived.Laws.StructEq
namespace Go.Eng
section
variable {ν : Nat → Int} {base : Nat} {W w : World} {σ : St} {ι : Inj} {R : Type} {P : Program} {C : Cfg}

/-! ## numbers that are not known -/
theorem cmp_run {op : BinOp} (h : isCmp op = true) (t : TypeId) (x y : Operand) (kd : IntKind) (a b : Int) :
    (binS op t x y (.int kd a) (.int kd b)).run P w = .ok (.bool (semC op a b)) w := by
  unfold binS
  rw [eqGuard_at_int]
  cases op <;> first | exact absurd h (by decide) | (simp [binOp, Op.intCmp, semC])
theorem tot_run {op : BinOp} (h : isTot op = true) (t : TypeId) (x y : Operand) (kd : IntKind) (a b : Int) :
    (binS op t x y (.int kd a) (.int kd b)).run P w = .ok (.int kd (semI op kd a b)) w := by
  unfold binS
  rw [eqGuard_at_int]
  cases op <;> first | exact absurd h (by decide) | (simp [binOp, Op.intArith, Op.intBits, semI])
theorem binSym_ok (hC : C.Holds ν) {op : BinOp} {kd : IntKind} {a b : E} {t : TypeId} {x y : Operand} {k : LV → Option R} {r : R}
    (hk : binSym C op kd a b k = some r) : PGood P ν ι w (binS op t x y (.int kd (E.den ν a)) (.int kd (E.den ν b))) k r := by
  unfold binSym at hk
  cases e : isCmp op with
  | true =>
    rw [e, cond_true] at hk
    split at hk
    · rename_i f hf
      exact .of hk VR_bool (by rw [cmp_run e, hC.facts _ _ _ _ (findFact_mem hf)])
    · cases hk
  | false =>
    rw [e, cond_false] at hk
    obtain ⟨e2, hk⟩ := cond_some hk
    exact .of hk (mkSym_VR hC kd _) (tot_run e2 ..)
theorem binSymR_ok (hC : C.Holds ν) {op : BinOp} {kd k' : IntKind} {a : E} {b : Int} {t : TypeId} {x y : Operand} {k : LV → Option R} {r : R} (hkd : kd = k' ∨ isShift op = true)
    (hk : binSymR C op kd a b k = some r) : PGood P ν ι w (binS op t x y (.int kd (E.den ν a)) (.int k' b)) k r := by
  have hg : (eqGuard op t x y (.int kd (E.den ν a)) (.int k' b)) = pure () := eqGuard_at_int ..
  unfold binSymR at hk
  split at hk
  · obtain ⟨h1, hk⟩ := cond_some hk
    have h1 := intLe_iff.1 h1
    refine .of hk (mkSym_VR hC kd _) ?_
    unfold binS; rw [hg]
    simp [binOp, Op.shift, show ¬ b < 0 by omega, E.den, semI]
  · obtain ⟨h1, hk⟩ := cond_some hk
    have h1 := intLe_iff.1 h1
    refine .of hk (mkSym_VR hC kd _) ?_
    unfold binS; rw [hg]
    simp [binOp, Op.shift, show ¬ b < 0 by omega, E.den, semI]
  · obtain rfl : kd = k' := by simpa [isShift] using hkd
    cases e : intEq b 0 with
    | true => rw [e] at hk; cases hk
    | false =>
      rw [e] at hk
      have hb : b ≠ 0 := fun h => by rw [intEq_iff.2 h] at e; cases e
      refine .of hk (mkSym_VR hC kd _) ?_
      unfold binS; rw [hg]
      simp [binOp, Op.intDiv, hb, E.den, semI]
  · obtain rfl : kd = k' := by simpa [isShift] using hkd
    cases e : intEq b 0 with
    | true => rw [e] at hk; cases hk
    | false =>
      rw [e] at hk
      have hb : b ≠ 0 := fun h => by rw [intEq_iff.2 h] at e; cases e
      refine .of hk (mkSym_VR hC kd _) ?_
      unfold binS; rw [hg]
      simp [binOp, Op.intDiv, hb, E.den, semI]
  · rename_i h1 h2 h3 h4
    obtain rfl : kd = k' := hkd.resolve_right (by cases op <;> simp [isShift] at *)
    exact binSym_ok (b := .lit b) hC hk

/-! ## strings -/
theorem u8_inj {a b : UInt8} (h : a.toNat = b.toNat) : a = b := UInt8.toNat_inj.1 h
theorem beqBytes_eq : ∀ (a b : List UInt8), beqBytes (a.map UInt8.toNat) (b.map UInt8.toNat) = (a == b)
  | [], [] => rfl
  | [], _ :: _ => rfl
  | _ :: _, [] => rfl
  | a :: x, b :: y => by
    simp only [List.map_cons, beqBytes, beqBytes_eq x y]
    cases e : Nat.beq a.toNat b.toNat with
    | true => have := u8_inj (natBeq.1 e); subst this; simp
    | false =>
      have : a ≠ b := fun h => by subst h; rw [Nat.beq_refl] at e; cases e
      simp [this]
theorem ltBytes_eq : ∀ (a b : List UInt8), ltBytes (a.map UInt8.toNat) (b.map UInt8.toNat) = Op.bytesLess a b
  | _, [] => by cases ‹List UInt8› <;> rfl
  | [], _ :: _ => rfl
  | a :: x, b :: y => by
    simp only [List.map_cons, ltBytes, Op.bytesLess, ltBytes_eq x y]
    have hlt : Nat.blt a.toNat b.toNat = decide (a < b) := by
      rw [Bool.eq_iff_iff, natBlt, decide_eq_true_iff]; exact UInt8.lt_iff_toNat_lt.symm
    rw [hlt]
    cases e : Nat.beq a.toNat b.toNat with
    | true => have := u8_inj (natBeq.1 e); subst this; cases decide (a < a) <;> simp
    | false =>
      have : a ≠ b := fun h => by subst h; rw [Nat.beq_refl] at e; cases e
      cases decide (a < b) <;> simp [this]
theorem VR_str {s : ByteArray} : VR ν ι (.str (s.data.toList.map UInt8.toNat)) (.string s) := by simp only [VR]; exact ⟨s, rfl, rfl⟩
theorem less_not (a b : List UInt8) : (!(Op.bytesLess b a)) = (Op.bytesLess a b || a == b) := by
  induction a generalizing b with
  | nil => cases b <;> simp [Op.bytesLess]
  | cons x a ih =>
    cases b with
    | nil => simp [Op.bytesLess]
    | cons y b =>
      simp only [Op.bytesLess]
      by_cases h : x = y
      · subst h
        have := ih b
        simp [UInt8.lt_irrefl] at this ⊢
        simpa using this
      · have h' : y ≠ x := fun e => h e.symm
        have hc : (decide (y < x)) = !(decide (x < y)) := by
          rw [Bool.eq_iff_iff]; simp only [decide_eq_true_iff, Bool.not_eq_true', decide_eq_false_iff_not]
          rw [UInt8.lt_iff_toNat_lt, UInt8.lt_iff_toNat_lt]
          have : x.toNat ≠ y.toNat := fun e => h (u8_inj e)
          omega
        have e1 : (x == y) = false := by simpa using h
        have e2 : (y == x) = false := by simpa using h'
        simp only [e1, e2, hc, Bool.false_and, Bool.or_false, Bool.not_not, List.cons_beq_cons]
theorem binStr_ok {op : BinOp} {s u : ByteArray} {t : TypeId} {x y : Operand} {k : LV → Option R} {r : R}
    (hk : binStr op (s.data.toList.map UInt8.toNat) (u.data.toList.map UInt8.toNat) k = some r) : PGood P ν ι w (binS op t x y (.string s) (.string u)) k r := by
  have hg : (eqGuard op t x y (.string s) (.string u)) = pure () := eqGuard_at_string ..
  have hb : binOp op t (.string s) (.string u) = Op.stringOp op s u := by cases op <;> rfl
  unfold binS; rw [hg, hb]; simp only [pure_bind]
  unfold binStr at hk
  split at hk
  · obtain ⟨h1, hk⟩ := cond_some hk
    rw [natBlt] at h1
    simp only [List.length_map, Array.length_toList] at h1
    have h1 : s.size + u.size < 9000000000000000000 := h1
    refine .of (u := .string (s ++ u)) hk ?_ ?_
    · simp only [VR]; exact ⟨s ++ u, rfl, by simp⟩
    · simp only [Op.stringOp, Sem.run_ite, IntKind.max_i64]
      rw [if_neg (by omega)]; rfl
  · exact .of hk VR_bool (by simp [Op.stringOp, beqBytes_eq, ByteArray.toList_eq])
  · exact .of hk VR_bool (by simp [Op.stringOp, beqBytes_eq, ByteArray.toList_eq])
  · exact .of hk VR_bool (by simp [Op.stringOp, ltBytes_eq, ByteArray.toList_eq])
  · exact .of hk VR_bool (by simp only [Op.stringOp, ltBytes_eq, ByteArray.toList_eq, less_not]; rfl)
  · exact .of hk VR_bool (by simp only [Op.stringOp, ltBytes_eq, ByteArray.toList_eq, ← less_not, Bool.not_not]; rfl)
  · exact .of hk VR_bool (by simp only [Op.stringOp, ltBytes_eq, ByteArray.toList_eq]; rfl)
  · cases hk
theorem kEq_or {kd k' : IntKind} {op : BinOp} (h : (kEq kd k' || isShift op) = true) : kd = k' ∨ isShift op = true := by
  simp only [Bool.or_eq_true] at h
  exact h.imp kEq_iff.1 id
theorem runBin_ok (hC : C.Holds ν) {op : BinOp} {a b : LV} {u v : Value} {t : TypeId} {x y : Operand} {k : LV → Option R} {r : R}
    (ha : VR ν ι a u) (hb : VR ν ι b v) (hk : runBin C op a b k = some r) : PGood P ν ι w (binS op t x y u v) k r := by
  unfold runBin at hk
  split at hk
  · simp only [VR] at ha; subst ha
    split at hk
    · simp only [VR] at hb; subst hb
      obtain ⟨h1, hk⟩ := cond_some hk
      exact binInt_ok (kEq_or h1) hk
    · simp only [VR] at hb; subst hb
      obtain ⟨h1, hk'⟩ := cond_some hk
      have := kEq_iff.1 h1; subst this
      exact binSym_ok (a := .lit _) hC hk'
    · cases hk
  · simp only [VR] at ha; subst ha
    split at hk
    · simp only [VR] at hb; subst hb
      obtain ⟨h1, hk⟩ := cond_some hk
      exact binSymR_ok hC (kEq_or h1) hk
    · simp only [VR] at hb; subst hb
      obtain ⟨h1, hk'⟩ := cond_some hk
      have := kEq_iff.1 h1; subst this
      exact binSym_ok hC hk'
    · cases hk
  · simp only [VR] at ha
    obtain ⟨s, rfl, rfl⟩ := ha
    split at hk
    · simp only [VR] at hb
      obtain ⟨s', rfl, rfl⟩ := hb
      exact binStr_ok hk
    · cases hk
  · cases hk

/-! ## comparisons with nil -/
def fitsQ (q : Nat) (d : TypeDesc) : Prop := match q, d with
  | 0, .bool => True
  | 1, .pointer _ => True
  | 2, .slice _ => True
  | 3, .map .. => True
  | 4, .func .. => True
  | _, _ => False
theorem equal_run {t : TypeId} {d : TypeDesc} {q : Nat} (hd : und P t = some d) (hq : fitsQ q d) {a b : LV} {u v : Value} (ha : VR ν ι a u) (hb : VR ν ι b v) {c : Bool}
    (h : eqNil q a b = some c) : (Op.equal t u v).run P w = .ok c w ∧ ∀ op x y, eqGuard op t x y u v = pure () := by
  have hs : Op.equal t u v = Op.equalIn (9999 + 1) t u v := rfl
  have hund := und_run (w := w) hd
  rw [hs, Op.equalIn]
  unfold eqNil at h
  split at h <;> (try cases h)
  all_goals
    cases d <;> (try exact hq.elim)
    simp only [VR] at ha hb
  · subst ha; subst hb
    refine ⟨?_, fun _ _ _ => eqGuard_at_bool ..⟩
    simp [hund]
    rename_i a b; cases a <;> cases b <;> rfl
  · subst ha; subst hb
    exact ⟨by simp [hund], fun _ _ _ => eqGuard_at_pointer ..⟩
  · subst ha; obtain ⟨_, _, rfl⟩ := hb
    exact ⟨by simp [hund], fun _ _ _ => eqGuard_at_pointer ..⟩
  · subst hb; obtain ⟨_, _, rfl⟩ := ha
    exact ⟨by simp [hund], fun _ _ _ => eqGuard_at_pointer ..⟩
  · subst ha; subst hb
    exact ⟨by simp [hund], fun _ _ _ => eqGuard_at_slice ..⟩
  · subst ha; obtain ⟨_, _, _, _, rfl, _⟩ := hb
    exact ⟨by simp [hund], fun _ _ _ => eqGuard_at_slice ..⟩
  · subst hb; obtain ⟨_, _, _, _, rfl, _⟩ := ha
    exact ⟨by simp [hund], fun _ _ _ => eqGuard_at_slice ..⟩
  · subst ha; subst hb
    exact ⟨by simp [hund], fun _ _ _ => eqGuard_at_map ..⟩
  · subst ha; obtain ⟨_, _, rfl⟩ := hb
    exact ⟨by simp [hund], fun _ _ _ => eqGuard_at_map ..⟩
  · subst hb; obtain ⟨_, _, rfl⟩ := ha
    exact ⟨by simp [hund], fun _ _ _ => eqGuard_at_map ..⟩
  · subst ha; subst hb
    exact ⟨by simp [hund], fun _ _ _ => eqGuard_at_nilFunc ..⟩
  · subst ha; obtain ⟨_, _, rfl, _⟩ := hb
    exact ⟨by simp [hund], fun _ _ _ => eqGuard_at_nilFunc ..⟩
  · subst hb; obtain ⟨_, _, rfl, _⟩ := ha
    exact ⟨by simp [hund], fun _ _ _ => eqGuard_at_func ..⟩
theorem eqn_ok {t : TypeId} {d : TypeDesc} {q : Nat} (hd : und P t = some d) (hq : fitsQ q d) {a b : LV} {u v : Value} (ha : VR ν ι a u) (hb : VR ν ι b v) {neg : Bool}
    {x y : Operand} {k : LV → Option R} {r : R} (hk : yesB neg (eqNil q a b) k = some r) : PGood P ν ι w (binS (cond neg .neq .eql) t x y u v) k r := by
  unfold yesB at hk
  split at hk
  · rename_i c hc
    obtain ⟨h1, h2⟩ := equal_run (P := P) (w := w) hd hq ha hb hc
    refine .of hk VR_bool ?_
    unfold binS; rw [h2]
    have hb' : ∀ op, (op = .eql ∨ op = .neq) → binOp op t u v = (match op with | .eql => do pure (.bool (← Op.equal t u v)) | _ => do pure (.bool (!(← Op.equal t u v)))) := by
      intro op hop
      unfold eqNil at hc
      split at hc <;> (try cases hc)
      all_goals
        cases d <;> (try exact hq.elim)
        simp only [VR] at ha hb
      all_goals
        first
          | (subst ha; subst hb; rcases hop with rfl | rfl <;> rfl)
          | (subst ha; obtain ⟨_, _, rfl⟩ := hb; rcases hop with rfl | rfl <;> rfl)
          | (subst hb; obtain ⟨_, _, rfl⟩ := ha; rcases hop with rfl | rfl <;> rfl)
          | (subst ha; obtain ⟨_, _, _, _, rfl, _⟩ := hb; rcases hop with rfl | rfl <;> rfl)
          | (subst hb; obtain ⟨_, _, _, _, rfl, _⟩ := ha; rcases hop with rfl | rfl <;> rfl)
          | (subst ha; obtain ⟨_, _, rfl, _⟩ := hb; rcases hop with rfl | rfl <;> rfl)
          | (subst hb; obtain ⟨_, _, rfl, _⟩ := ha; rcases hop with rfl | rfl <;> rfl)
    cases neg with
    | true => rw [cond_true, hb' _ (.inr rfl)]; simp [h1]
    | false => rw [cond_false, hb' _ (.inl rfl)]; simp [h1]
  · cases hk
/-! ## structs of two strings -/
theorem twoStr_ok {t : TypeId} {fs : Array Field} (h : twoStr P t fs = true) : ∃ f g, fs.toList = [f, g] ∧ und P f.type = some .string ∧ und P g.type = some .string ∧ f.name ≠ "_" ∧ g.name ≠ "_" ∧ f.offset = 0 ∧ g.offset = 1 ∧ P.stoodInHeld t = false ∧ P.eqGuardType P.depth t = false := by
  unfold twoStr at h
  split at h
  · rename_i f g hfs
    split at h
    · rename_i h1 h2
      simp only [Bool.and_eq_true, Bool.not_eq_true', natBeq] at h
      obtain ⟨⟨⟨⟨⟨a1, a2⟩, a3⟩, a4⟩, a5⟩, a6⟩ := h
      exact ⟨f, g, hfs, h1, h2, by simpa using a1, by simpa using a2, a3, a4, a5, a6⟩
    · cases h
  · cases h
theorem eqS_ok {t : TypeId} {fs : Array Field} (hd : und P t = some (.struct fs)) (h2 : twoStr P t fs = true) {a b : LV} {u v : Value} (ha : VR ν ι a u) (hb : VR ν ι b v) {neg : Bool} {x y : Operand} {k : LV → Option R} {r : R}
    (hk : rEqS neg a b k = some r) : PGood P ν ι w (binS (cond neg .neq .eql) t x y u v) k r := by
  unfold rEqS at hk
  split at hk
  · rename_i s1 s2 s3 s4
    obtain ⟨f, g, hfs, hf, hg, n1, n2, o1, o2, hst, hgd⟩ := twoStr_ok h2
    simp only [VR, VRs] at ha hb
    obtain ⟨us, rfl, ⟨c1, l1, e1, ⟨b1, rfl, rfl⟩, c2, l2, e2, ⟨b2, rfl, rfl⟩, rfl⟩, _⟩ := ha
    obtain ⟨vs, rfl, ⟨c3, l3, e3, ⟨b3, rfl, rfl⟩, c4, l4, e4, ⟨b4, rfl, rfl⟩, rfl⟩, _⟩ := hb
    subst e2; subst e4
    have hus : us = #[.string b1, .string b2] := by apply Array.ext'; simpa using e1
    have hvs : vs = #[.string b3, .string b4] := by apply Array.ext'; simpa using e3
    subst hus; subst hvs
    have hfo : P.fieldsOf t = fs := by
      have hd : P.underlying t = some (.struct fs) := hd
      simp only [Program.fieldsOf, hd]
    have hrun : (Op.equal t (.agg #[.string b1, .string b2]) (.agg #[.string b3, .string b4])).run P w = .ok ((b1.toList == b3.toList) && (b2.toList == b4.toList)) w := by
      show (Op.equalIn (9999 + 1) t _ _).run P w = _
      rw [run_equalIn_struct (ht := by rw [hfo]; exact hd) (hp := hst), hfo, hfs]
      have is1 : (Go.isAgg f.type).run P w = .ok false w := by simp [Go.isAgg, und_run hf]
      have is2 : (Go.isAgg g.type).run P w = .ok false w := by simp [Go.isAgg, und_run hg]
      have q1 : ∀ a b : ByteArray, (Op.equalIn 9999 f.type (.string a) (.string b)).run P w = .ok (a.toList == b.toList) w := fun a b => run_equalIn_string w 9998 f.type a b hf
      have q2 : ∀ a b : ByteArray, (Op.equalIn 9999 g.type (.string a) (.string b)).run P w = .ok (a.toList == b.toList) w := fun a b => run_equalIn_string w 9998 g.type a b hg
      simp only [Op.eqFields, if_pos n1, if_pos n2, part, o1, o2, Sem.run_bind, is1, is2, Result.andThen_ok, Bool.false_eq_true, if_false, List.getElem?_toArray, List.getElem?_cons_zero, List.getElem?_cons_succ, Sem.run_pure, q1, Sem.run_ite]
      cases e : b1.toList == b3.toList with
      | false => simp
      | true =>
        simp only [Bool.not_true, Bool.false_eq_true, if_false, Sem.run_bind, is2, Result.andThen_ok, q2, Sem.run_ite, Sem.run_pure, List.getElem?_toArray, List.getElem?_cons_zero, List.getElem?_cons_succ, Bool.true_and]
        cases (b2.toList == b4.toList) <;> rfl
    have hguard : ∀ op, (eqGuard op t x y (.agg #[.string b1, .string b2]) (.agg #[.string b3, .string b4])).run P w = .ok () w := by
      intro op
      unfold eqGuard
      cases op <;> simp [hgd]
    have hval : (b1.toList == b3.toList && b2.toList == b4.toList) = (beqBytes (b1.data.toList.map UInt8.toNat) (b3.data.toList.map UInt8.toNat) && beqBytes (b2.data.toList.map UInt8.toNat) (b4.data.toList.map UInt8.toNat)) := by
      rw [beqBytes_eq, beqBytes_eq, ByteArray.toList_eq, ByteArray.toList_eq, ByteArray.toList_eq, ByteArray.toList_eq]
    refine .of hk VR_bool ?_
    unfold binS
    cases neg with
    | true =>
      simp only [cond_true, Sem.run_bind, hguard, Result.andThen_ok]
      show (do pure (.bool (!(← Op.equal t (.agg #[.string b1, .string b2]) (.agg #[.string b3, .string b4])))) : Sem Value).run P w = _
      simp only [Sem.run_bind, hrun, Result.andThen_ok, hval]; rfl
    | false =>
      simp only [cond_false, Sem.run_bind, hguard, Result.andThen_ok]
      show (do pure (.bool (← Op.equal t (.agg #[.string b1, .string b2]) (.agg #[.string b3, .string b4]))) : Sem Value).run P w = _
      simp only [Sem.run_bind, hrun, Result.andThen_ok, hval]; rfl
  · cases hk
end
end Go.Eng
