/- The place of a byte in a string, by the model's own function: carried out by the symbolic executor at once. Conditions: none. -/
import Derived.Test.YthignahfnlgolaaGreatDoorEngV
import Derived.Laws.Externs
namespace Go.Eng
open Go.RowKit (Below)
noncomputable section
def ixAt (c : Nat) : List Nat → Nat → Int
  | [], _ => -1
  | b :: r, i => cond (Nat.beq b c) (.ofNat i) (ixAt c r (i + 1))
def ixRun {R : Type} (args : List LV) (σ : St) (k : K R) : Option R := match args with
  | [.str s, .int .u8 (.ofNat c)] => cond (Nat.blt c 256) (k (.int .i64 (ixAt c s 0)) σ) none
  | _ => none
end
theorem ixAt_spec (c : UInt8) : ∀ (l : List UInt8) (j : Nat), (ixAt c.toNat (l.map UInt8.toNat) j = -1 ∧ ∀ i, (h : i < l.length) → l[i] ≠ c) ∨ ∃ i, ∃ h : i < l.length, ixAt c.toNat (l.map UInt8.toNat) j = .ofNat (j + i) ∧ l[i] = c ∧ ∀ i' (h' : i' < i), l[i'] ≠ c
  | [], j => .inl ⟨rfl, fun i h => by simp at h⟩
  | b :: r, j => by
    simp only [List.map_cons, ixAt]
    cases e : Nat.beq b.toNat c.toNat with
    | true =>
      have := u8_inj (natBeq.1 e)
      exact .inr ⟨0, by simp, rfl, this, fun i' h' => by omega⟩
    | false =>
      have hne : b ≠ c := fun q => by subst q; rw [Nat.beq_refl] at e; cases e
      rw [cond_false]
      rcases ixAt_spec c r (j + 1) with ⟨h1, h2⟩ | ⟨i, hi, h1, h2, h3⟩
      · refine .inl ⟨h1, fun i h => ?_⟩
        cases i with
        | zero => exact hne
        | succ i => exact h2 i (by simpa using h)
      · refine .inr ⟨i + 1, by simpa using hi, by rw [h1]; congr 1; omega, h2, fun i' h' => ?_⟩
        cases i' with
        | zero => exact hne
        | succ i' => exact h3 i' (by omega)
theorem firstIdx_eq (s : ByteArray) (c : UInt8) : firstIdx s c = ixAt c.toNat (s.data.toList.map UInt8.toNat) 0 := by
  have hget : ∀ i (h : i < s.data.toList.length), (s[i]! == c) = (s.data.toList[i] == c) := by
    intro i h
    have hs : i < s.size := by simpa using h
    rw [getElem!_pos s i hs]
    rfl
  unfold firstIdx
  rcases ixAt_spec c s.data.toList 0 with ⟨h1, h2⟩ | ⟨i, hi, h1, h2, h3⟩
  · rw [h1]
    have : (List.range s.size).find? (fun i => s[i]! == c) = none := by
      rw [List.find?_eq_none]
      intro x hx
      have hx : x < s.data.toList.length := by simpa using hx
      rw [hget x hx]
      simpa using h2 x hx
    rw [this]
  · rw [h1]
    have : (List.range s.size).find? (fun i => s[i]! == c) = some i := by
      rw [List.find?_range_eq_some]
      refine ⟨by rw [hget i hi]; simpa using h2, by simpa using hi, fun j hj => ?_⟩
      rw [hget j (by omega)]
      simpa using h3 j hj
    rw [this]
    simp
section
variable {ν : Nat → Int} {base : Nat} {W : World} {P : Program}
theorem ixRun_ok {f : Nat} {fn : Func} (hf : P.funcs[f]? = some fn) (hname : (fn.name == "runtime.NumGoroutine") = false) (hb : fn.body.isNone = true) (hn : Extern.findNext fn = none) (he : Extern.find fn = some Extern.BytealgIndexByte.indexByte) :
    PrimOk P ν base W f ⟨fun args σ k => ixRun args σ k⟩ := by
  intro R args σ k r ι w vs hk H hv
  change ixRun args σ k = some r at hk
  unfold ixRun at hk
  split at hk
  · rename_i s c
    obtain ⟨hc, hk⟩ := cond_some hk
    have hc := natBlt.1 hc
    obtain ⟨p, t, e1, h1, q, t2, e2, h2, h3⟩ := hv
    have h3 : t2 = [] := h3
    subst h3; subst e2
    simp only [VR] at h1 h2
    obtain ⟨s', rfl, rfl⟩ := h1
    subst h2
    obtain rfl : vs = #[.string s', .int .u8 (.ofNat c)] := by apply Array.ext'; simpa using e1
    rw [run_callFunc_extern hf hname hb hn he, run_indexByte_string]
    refine ⟨.int .i64 (ixAt c (s'.data.toList.map UInt8.toNat) 0), σ, ι, .refl _ _, H, ?_, hk⟩
    simp only [VR]
    have hcc : (Int.ofNat c).toNat.toUInt8.toNat = c := by simp; omega
    rw [firstIdx_eq, hcc]
  · cases hk
end
end Go.Eng
