/- The symbolic executor's append follows the model's: in place, into a new block, or into either. Conditions: none. -/
import Derived.Test.YthignahfnlgolaaGreatDoorEngE
namespace Go.Eng
section
variable {ν : Nat → Int} {base : Nat} {W w : World} {σ : St} {ι : Inj} {R : Type} {P : Program} {C : Cfg}

theorem grow_le (m : Nat) : ∀ (r c : Nat), 256 ≤ c → Builtin.growBy m r c ≤ 2 ^ r * c
  | 0, c, _ => by simp [Builtin.growBy]
  | r + 1, c, h => by
    simp only [Builtin.growBy]
    have h1 : c ≤ 2 ^ (r + 1) * c := Nat.le_mul_of_pos_left _ (Nat.two_pow_pos _)
    split
    · exact h1
    · have ih := grow_le m r (c + (c + 768) / 4) (by omega)
      have : 2 ^ r * (c + (c + 768) / 4) ≤ 2 ^ r * (2 * c) := Nat.mul_le_mul_left _ (by omega)
      rw [Nat.pow_succ, Nat.mul_assoc]
      omega
theorem next_le {need old : Nat} (h : old < need) (h2 : need ≤ 1048576) : Builtin.nextslicecap need old ≤ 16777216 := by
  unfold Builtin.nextslicecap
  split
  · omega
  · split
    · omega
    · have := grow_le need 4 old (by omega); omega
theorem big_not {need old bytes : Nat} (h : old < need) (h2 : need ≤ 1048576) (hb : bytes ≤ 65536) : ¬ (Builtin.nextslicecap need old * bytes > 2 ^ 48) := by
  have h1 := next_le h h2
  have : Builtin.nextslicecap need old * bytes ≤ 16777216 * 65536 := Nat.mul_le_mul h1 hb
  omega

theorem append_fit {ats : Array TypeId} {ty t u e : TypeId} (h0 : ats[0]? = some t) (h1 : ats[1]? = some u) (hd : und P t = some (.slice e)) {du : TypeDesc} (hu : und P u = some du)
    (hi : isIntT P u = false) (hz : sizeOf P e ≠ 0) {ba : Option Addr} {len cap n : Nat} {x : Value} {us : List Value} {w' : World}
    (hn : (Builtin.lenOf x).run P w = .ok n w) (hap : (Builtin.firstCells (sizeOf P e) n x).run P w = .ok us.toArray w) (hfit : len + n ≤ cap)
    (hst : ∀ a, ba = some a → (storeCells (a.add (len * sizeOf P e)) us).run P w = .ok () w') (hno : ba = none → w' = w) :
    (Builtin.append_ ats ty #[.slice ba len cap, x]).run P w = .ok (.slice ba (len + n) cap) w' := by
  unfold isIntT at hi
  rw [hu] at hi
  unfold Builtin.append_
  cases du
  case int => cases hi
  all_goals
    simp only [h0, h1, show (#[Value.slice ba len cap, x])[0]? = some (.slice ba len cap) from rfl, show (#[Value.slice ba len cap, x])[1]? = some x from rfl, Sem.run_bind, und_run hd, und_run hu, Result.andThen_ok, size_run hz,
      Sem.run_pure, hn, Bool.not_false, if_true, Bool.false_eq_true, if_false, hfit, hap]
    cases ba with
    | none => have h := hno rfl; subst h; rfl
    | some a => simp only [Sem.run_bind, hst a rfl, Result.andThen_ok, Sem.run_pure]
/-- a number of zeros that is laid out -/
structure Few (i : TypeInfo) (m : Int) (n : Nat) : Prop where
  wr : IntKind.i64.wrap m = m
  neg : ¬ m < 0
  big : ¬ (m * (i.bytes : Int) > 2 ^ 48)
  nat : m.toNat = n
theorem few {i : TypeInfo} {n : Nat} (hn : n ≤ 1048576) (hb : i.bytes ≤ 65536) : Few i (Int.ofNat n) n := by
  have h0 : (0 : Int) ≤ Int.ofNat n := Int.natCast_nonneg n
  have h1 : Int.ofNat n = (n : Int) := rfl
  refine ⟨wrap_in _ (by omega) (by omega), by omega, ?_, rfl⟩
  have : n * i.bytes ≤ 1048576 * 65536 := Nat.mul_le_mul hn hb
  have e : (Int.ofNat n * (i.bytes : Int)) = ((n * i.bytes : Nat) : Int) := by simp
  rw [e]; omega
theorem append_fit0 {ats : Array TypeId} {ty t u e : TypeId} (h0 : ats[0]? = some t) (h1 : ats[1]? = some u) (hd : und P t = some (.slice e)) {kk : IntKind} (hu : und P u = some (.int kk))
    (hz : sizeOf P e ≠ 0) {i : TypeInfo} (hinf : P.info? e = some i) {ba : Option Addr} {len cap n : Nat} {kx : IntKind} {m : Int} (hm : Few i m n) {us : List Value} {w' : World}
    (hap : (if n * sizeOf P e = 0 then pure #[] else do pure (Builtin.zeroCells (← zeroValue e).cells n) : Sem (Array Value)).run P w = .ok us.toArray w) (hfit : len + n ≤ cap)
    (hst : ∀ a, ba = some a → (storeCells (a.add (len * sizeOf P e)) us).run P w = .ok () w') (hno : ba = none → w' = w) :
    (Builtin.append_ ats ty #[.slice ba len cap, .int kx m]).run P w = .ok (.slice ba (len + n) cap) w' := by
  unfold Builtin.append_
  simp only [h0, h1, show (#[Value.slice ba len cap, .int kx m])[0]? = some (.slice ba len cap) from rfl, show (#[Value.slice ba len cap, .int kx m])[1]? = some (.int kx m) from rfl, Sem.run_bind, und_run hd, und_run hu, Result.andThen_ok, size_run hz,
      Sem.run_pure, asInt, asIntOf, hm.wr, hm.neg, if_false, if_true, info_run hinf, hm.big, hm.nat, hfit, Bool.not_true, Bool.false_eq_true, hap]
  cases ba with
  | none => have h := hno rfl; subst h; rfl
  | some a => simp only [Sem.run_bind, hst a rfl, Result.andThen_ok, Sem.run_pure]
/-- a new block that holds what a slice held, and more -/
theorem append_grow {ats : Array TypeId} {ty t u e : TypeId} (h0 : ats[0]? = some t) (h1 : ats[1]? = some u) (hd : und P t = some (.slice e)) {du : TypeDesc} (hu : und P u = some du)
    (hi : isIntT P u = false) (hz : sizeOf P e ≠ 0) {i : TypeInfo} (hinf : P.info? e = some i) (hb : i.bytes ≤ 65536) {ba : Option Addr} {len cap n : Nat} {x : Value} {os us : List Value} {z : Value}
    (hn : (Builtin.lenOf x).run P w = .ok n w) (hap : (Builtin.firstCells (sizeOf P e) n x).run P w.drew = .ok us.toArray w.drew) (hfit : cap < len + n) (hlim : len + n ≤ 1048576)
    (hold : (Builtin.firstCells (sizeOf P e) len (.slice ba len cap)).run P w.drew = .ok os.toArray w.drew) (hzv : ∀ w, (Go.zeroValue e).run P w = .ok z w) :
    ∃ c, len + n ≤ c ∧ (Builtin.append_ ats ty #[.slice ba len cap, x]).run P w = .ok (.slice (some ⟨w.heap.size, 0, none⟩) (len + n) c) (w.drew.alloc (.cells (os.toArray ++ us.toArray ++ Builtin.zeroCells z.cells (c - (len + n))) e)) := by
  unfold isIntT at hi
  rw [hu] at hi
  have hnf : ¬ (len + n ≤ cap) := by omega
  have hmx : ¬ (((len + n : Nat) : Int) > IntKind.i64.max) := by rw [IntKind.max_i64]; omega
  have hbig := big_not (bytes := i.bytes) hfit hlim hb
  refine ⟨(Question.appendCap (len + n) cap e).cut (w.tape w.drawn (.appendCap (len + n) cap e)), Nat.le_add_right _ _, ?_⟩
  unfold Builtin.append_
  cases du
  case int => cases hi
  all_goals
    simp only [h0, h1, show (#[Value.slice ba len cap, x])[0]? = some (.slice ba len cap) from rfl, show (#[Value.slice ba len cap, x])[1]? = some x from rfl, Sem.run_bind, und_run hd, und_run hu, Result.andThen_ok, size_run hz,
      Sem.run_pure, hn, Bool.not_false, if_true, Bool.false_eq_true, if_false, hnf, info_run hinf, hmx, false_and, hbig, run_choose, Question.forced, World.drew_eq, run_askRoom, hold, hap, hzv, newRow_run, World.size_drew]
theorem append_grow0 {ats : Array TypeId} {ty t u e : TypeId} (h0 : ats[0]? = some t) (h1 : ats[1]? = some u) (hd : und P t = some (.slice e)) {kk : IntKind} (hu : und P u = some (.int kk))
    (hz : sizeOf P e ≠ 0) {i : TypeInfo} (hinf : P.info? e = some i) (hb : i.bytes ≤ 65536) {ba : Option Addr} {len cap n : Nat} {kx : IntKind} {m : Int} (hm : Few i m n) {os us : List Value} {z : Value}
    (hap : (if n * sizeOf P e = 0 then pure #[] else do pure (Builtin.zeroCells (← zeroValue e).cells n) : Sem (Array Value)).run P w.drew = .ok us.toArray w.drew) (hfit : cap < len + n) (hlim : len + n ≤ 1048576)
    (hold : (Builtin.firstCells (sizeOf P e) len (.slice ba len cap)).run P w.drew = .ok os.toArray w.drew) (hzv : ∀ w, (Go.zeroValue e).run P w = .ok z w) :
    ∃ c, len + n ≤ c ∧ (Builtin.append_ ats ty #[.slice ba len cap, .int kx m]).run P w = .ok (.slice (some ⟨w.heap.size, 0, none⟩) (len + n) c) (w.drew.alloc (.cells (os.toArray ++ us.toArray ++ Builtin.zeroCells z.cells (c - (len + n))) e)) := by
  have hnf : ¬ (len + n ≤ cap) := by omega
  have hmx : ¬ (((len + n : Nat) : Int) > IntKind.i64.max) := by rw [IntKind.max_i64]; omega
  have hbig := big_not (bytes := i.bytes) hfit hlim hb
  refine ⟨(Question.appendCap (len + n) cap e).cut (w.tape w.drawn (.appendCap (len + n) cap e)), Nat.le_add_right _ _, ?_⟩
  unfold Builtin.append_
  simp only [h0, h1, show (#[Value.slice ba len cap, .int kx m])[0]? = some (.slice ba len cap) from rfl, show (#[Value.slice ba len cap, .int kx m])[1]? = some (.int kx m) from rfl, Sem.run_bind, und_run hd, und_run hu, Result.andThen_ok, size_run hz,
      Sem.run_pure, asInt, asIntOf, hm.wr, hm.neg, if_false, if_true, info_run hinf, hm.big, hm.nat, Bool.not_true, Bool.false_eq_true, hnf, hmx, false_and, hbig, run_choose, Question.forced, World.drew_eq, run_askRoom, hold, hap, hzv, newRow_run, World.size_drew]
end
end Go.Eng
