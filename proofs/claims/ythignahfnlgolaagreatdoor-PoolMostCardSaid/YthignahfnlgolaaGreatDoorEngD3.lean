/- Regions that draw their order follow the model's, at whatever order. Conditions: none. -/
import Derived.Test.YthignahfnlgolaaGreatDoorEngD2
namespace Go.Eng
open Go.RowKit (Below)

section
variable {ds : List DOp} {fr0 : Fr} {v v' : Nat → LV} {L L' : Nat → Bool}
theorem frOf_congr (hd : ∀ i t, (atD ds i).d = some t → t ≤ 100000) {t n : Nat} (h : ∀ k, k < n → (atD ds k).d = some t → L k = L' k ∧ (L k = true → v k = v' k)) : (frOf ds fr0 v L n).get t = (frOf ds fr0 v' L' n).get t := by
  induction n with
  | zero => rfl
  | succ n ih =>
    have ih := ih fun k hk => h k (by omega)
    simp only [frOf]
    by_cases e : (atD ds n).d = some t
    · obtain ⟨h1, h2⟩ := h n (by omega) e
      rw [← h1]
      cases hL : L n with
      | false => rw [cond_false, cond_false, ih]
      | true => rw [cond_true, cond_true, setD_get (hd n), setD_get (hd n), if_pos e, if_pos e, h2 hL]
    · have : ∀ (b : Bool) (f : Fr) (x : LV), (cond b (setD f x (atD ds n).d) f).get t = f.get t := by
        intro b f x
        cases b with
        | true => rw [cond_true, setD_get (hd n), if_neg e]
        | false => rfl
      rw [this, this, ih]
theorem frOf_last (hd : ∀ i t, (atD ds i).d = some t → t ≤ 100000) {t k n : Nat} (h1 : k < n) (h2 : L k = true) (h3 : (atD ds k).d = some t) (h4 : ∀ j, k < j → j < n → L j = true → (atD ds j).d ≠ some t) :
    (frOf ds fr0 v L n).get t = some (v k) := by
  rcases frOf_get (fr0 := fr0) (v := v) (L := L) hd t n with ⟨_, q⟩ | ⟨k', a1, a2, a3, a4, a5⟩
  · exact absurd h3 (q k h1 h2)
  · rcases Nat.lt_trichotomy k k' with e | e | e
    · exact absurd a3 (h4 k' e a1 a2)
    · rw [a4, e]
    · exact absurd h3 (a5 k e h1 h2)
end
theorem FrOk.of_get {ν : Nat → Int} {ι : Inj} {mask nt : Nat} {fr fr' : Fr} {a : Act} (h : FrOk ν ι mask nt fr a) (hg : ∀ t, fr'.get t = fr.get t) : FrOk ν ι mask nt fr' a :=
  ⟨h.defers, h.size, fun t v ht => h.vals t v (by rw [← hg]; exact ht), fun t v ht => h.dom t v (by rw [← hg]; exact ht)⟩
theorem mk_inv {P : Program} {env : Env} {op : Op} (h : cOp P env op = .f .mkmap) : ∃ t, op = .makeMap t none := by
  cases op
  case makeMap t r =>
    cases r with
    | none => exact ⟨t, rfl⟩
    | some x => cases h
  case call c =>
    exfalso
    obtain ⟨callee, args, ats⟩ := c
    simp only [cOp, cCall] at h
    split at h
    · simp only [cBuiltin] at h
      split at h
      · split at h
        · unfold cLen at h
          split at h
          · cases h
          · split at h <;> cases h
          all_goals cases h
        · cases h
      · split at h
        · simp only [cAppend] at h
          split at h
          · split at h
            · revert h
              cases (Nat.beq _ 0 || !(Nat.beq _ _) || Nat.blt _ _ || Option.isNone _) <;> (intro h; cases h)
            · cases h
          · cases h
        · cases h
      · split at h
        · split at h
          · revert h
            cases (Nat.beq _ 0) <;> (intro h; cases h)
          · cases h
        · cases h
      · split at h
        · split at h <;> cases h
        · cases h
      all_goals cases h
    all_goals cases h
  all_goals (exfalso; simp only [cOp] at h)
  case load t a => simp only [cLoad] at h; split at h <;> cases h
  case binOp op t x y ty =>
    simp only [cBin] at h
    split at h <;> first | cases h | (unfold cBin.cEq at h; split at h <;> cases h) | (revert h; cases (twoStr _ _ _) <;> (intro h; simp only [cond_true, cond_false] at h; first | cases h | (unfold cEqS at h; split at h <;> cases h)))
  case makeFunc f a b => cases f <;> cases h
  case fieldAddr t x f =>
    simp only [cFieldAddr] at h
    split at h
    · split at h
      · revert h
        cases (Nat.beq _ 0) <;> (intro h; cases h)
      · cases h
    · cases h
  case indexAddr t x i =>
    simp only [cIndexAddr] at h
    split at h
    · revert h
      cases (Nat.beq _ 0) <;> (intro h; cases h)
    · cases h
  case index t x i => simp only [cIndex] at h; split at h <;> cases h
  case slice t x lo hi mx =>
    simp only [cSlice] at h
    split at h
    · split at h <;> cases h
    · revert h
      cases (Nat.beq _ 0 || _) <;> (intro h; cases h)
    · cases h
  case build t parts =>
    unfold cBuild at h
    split at h
    · revert h
      cases (Array.all _ _) <;> (intro h; simp only [cond_true, cond_false] at h; first | cases h | (split at h <;> cases h))
    · revert h
      cases (Nat.beq _ 0) <;> (intro h; simp only [cond_true, cond_false] at h; first | cases h | (split at h <;> cases h))
    · cases h
  case buildSlice t len parts =>
    simp only [cBuildS] at h
    split at h
    · split at h
      · revert h
        cases (Nat.beq _ 0 || !(Nat.beq _ _) || Nat.blt _ _)
        · intro h
          simp only [cond_false] at h
          split at h <;> cases h
        · intro h; cases h
      · cases h
    · cases h
  case lookup t m i ok => simp only [cLookup] at h; split at h <;> (try (split at h)) <;> cases h
  case convert s d x => simp only [cConv] at h; split at h <;> (try (split at h)) <;> cases h
  case alloc t => split at h <;> cases h
  case store t a x => split at h <;> cases h
  case mapUpdate t m k x => simp only [cMapset] at h; split at h <;> (try (split at h)) <;> cases h
  case insert t m k x => simp only [cMapset] at h; split at h <;> (try (split at h)) <;> cases h
  case range t x => split at h <;> cases h
  case next x b => cases b <;> cases h
  all_goals cases h
end Go.Eng
