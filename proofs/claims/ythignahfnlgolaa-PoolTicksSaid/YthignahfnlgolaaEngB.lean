/- A slice of bools among the arguments, as the symbolic executor knows it. Conditions: none. -/
import Derived.Test.YthignahfnlgolaaEngT
import Derived.ChangeSlices
import Derived.ChangeMaps5
import Derived.WideShapes
namespace Go.Eng
open Go.RowKit (Below)
open Go.ChangeShapes
section
variable {H : Type} {enc : TypeId × Value → H} {P : Program} {w : World} {base : Nat} {spare : Nat → Bool} {held : Bool}
theorem open_bools {t e : TypeId} {fuel : Nat} {cs : List Value} {x : DataW H × List MemPlace} (ht : P.underlying t = some (.slice e)) (he : P.underlying e = some .bool) (hc : P.cellsOf e = 1)
    (h : DataW.trod enc P w base spare held fuel t cs = some x) :
    (cs = [.slice none 0 0]) ∨ ∃ (a : Addr) (len cap : Nat) (zs : List Bool), cs = [.slice (some a) len cap] ∧ len ≤ cap ∧ zs.length = (if spare a.block then cap else len) ∧ ∀ i, i < zs.length → w.cell? (a.add i) = some (.bool (zs.getD i false)) := by
  rcases DataW.trod_slice ht h with h0 | ⟨a, len, cap, elems, rest, n, _, rfl, rfl, hb, hl, hm, hlen, hel, hsp, hns⟩
  · exact Or.inl h0.1
  right
  have each : ∀ i, i < elems.length + rest.length → ∃ b : Bool, w.cell? (a.add i) = some (.bool b) := by
    intro i hi
    have hb' : ∃ y, (w.cells? base (a.add (i * P.cellsOf e)) (P.cellsOf e)).bind (DataW.trod enc P w base spare held n e) = some y := by
      by_cases hi' : i < len
      · exact ⟨elems[i]'(by omega), by rw [hel i hi', List.getElem?_eq_getElem]⟩
      · have hi2 : i - len < rest.length := by omega
        cases hs : spare a.block with
        | false => rw [hns hs] at hi2; simp at hi2
        | true =>
          obtain ⟨hrl, hr⟩ := hsp hs
          have := hr (i - len) (by omega)
          rw [show len + (i - len) = i by omega] at this
          exact ⟨rest[i - len]'hi2, by rw [this, List.getElem?_eq_getElem]⟩
    obtain ⟨y, hy⟩ := hb'
    rw [hc, Nat.mul_one, Option.bind_eq_some_iff] at hy
    obtain ⟨cs', hcs, hy'⟩ := hy
    obtain ⟨b, hb⟩ : ∃ b : Bool, cs' = [.bool b] := by
      cases n with
      | zero => simp [DataW.trod] at hy'
      | succ n =>
        unfold DataW.trod at hy'
        rw [he] at hy'
        split at hy' <;> simp_all
    subst hb
    exact ⟨b, cell_of_cells?_one hcs⟩
  have hex : ∀ m, m ≤ elems.length + rest.length → ∃ zs : List Bool, zs.length = m ∧ ∀ i, i < m → w.cell? (a.add i) = some (.bool (zs.getD i false)) := by
    intro m
    induction m with
    | zero => intro _; exact ⟨[], rfl, fun i hi => absurd hi (by omega)⟩
    | succ m ih =>
      intro hm
      obtain ⟨zs, h1, h2⟩ := ih (by omega)
      obtain ⟨b, hb⟩ := each m (by omega)
      refine ⟨zs ++ [b], by simp [h1], fun i hi => ?_⟩
      by_cases e : i = m
      · subst e; rw [hb]; simp [List.getD, ← h1]
      · rw [h2 i (by omega)]
        simp [List.getD, List.getElem?_append_left (show i < zs.length by omega)]
  obtain ⟨zs, h1, h2⟩ := hex _ (Nat.le_refl _)
  refine ⟨a, len, cap, zs, rfl, hl, ?_, by rw [h1]; exact h2⟩
  rw [h1, hlen]
  cases hs : spare a.block with
  | false => simp [hns hs]
  | true => simp [(hsp hs).1]; omega
end
section
variable {P : Program}
def slN (n : Nat) : LV := .slice 1 0 0 n none
def inj0 (B : Blk) : Inj := fun b => if b = 0 then some B else none
/-- the slice: at which address, how long, of which bools -/
def HeldB (W : World) (v : Value) (n : Nat) (bs : List Bool) (blk off : Nat) : Prop :=
  ∃ C, v = .slice (some ⟨blk, off, none⟩) n C ∧ n ≤ C ∧ blk < W.heap.size ∧ bs.length = C ∧ ∀ i, i < C → W.cell? ((⟨blk, off, none⟩ : Addr).add i) = some (.bool (bs.getD i false))
theorem rep0 {W w : World} {B : Blk} {base : Nat} (hbe : Below base W w) (hba : base ≤ w.heap.size) (hB : B.blk < w.heap.size) (ν : Nat → Int) : Rep ν base W ⟨.e, 1⟩ (inj0 B) w := by
  refine ⟨hbe, hba, fun b o h => (by cases h), ?_, ?_, fun b cs c s h => (by cases h), fun b b' o o' B B' _ h => (by cases h), by decide⟩
  · intro b B' h
    show b < 1
    unfold inj0 at h
    split at h
    · omega
    · cases h
  · intro b B' h
    unfold inj0 at h
    split at h
    · cases h; exact hB
    · cases h
/-- of which nothing but the length is known -/
theorem HeldB.plain {W : World} {v : Value} {n : Nat} {bs : List Bool} {blk off : Nat} (h : HeldB W v n bs blk off) (ν : Nat → Int) : ∃ B : Blk, B.blk = blk ∧ B.base = off ∧ B.blk < W.heap.size ∧ ∀ ι : Inj, ι 0 = some B → VR ν ι (slN n) v := by
  obtain ⟨C, rfl, h1, h2, h3, _⟩ := h
  refine ⟨⟨blk, off, off + C, 0⟩, rfl, rfl, h2, fun ι hι => ?_⟩
  simp only [slN, VR]
  exact ⟨_, _, C, hι, rfl, h1, by omega, rfl, .inr rfl, Nat.zero_le _, by show off + 0 + C * 1 ≤ off + C; omega⟩
def boolsL (l : List Bool) : List LV := l.map .bool
theorem VRs_bools (ν : Nat → Int) (ι : Inj) (l : List Bool) : VRs ν ι (boolsL l) (l.map .bool) := by
  induction l with
  | nil => exact VRs_nil
  | cons x r ih => exact VRs_cons VR_bool ih
noncomputable def stB (l : List Bool) : St := ⟨Tr.set .e 0 (some (.cells (boolsL l) 0 3)), 1⟩
/-- whose bools are known -/
theorem HeldB.known {W : World} {v : Value} {n : Nat} {bs : List Bool} {blk off : Nat} (h : HeldB W v n bs blk off) (hn : 0 < n) (ν : Nat → Int) : ∃ ι : Inj, Rep ν W.heap.size W (stB (bs.take n)) ι W ∧ VR ν ι (slN n) v := by
  obtain ⟨C, rfl, h1, h2, h3, h4⟩ := h
  have hadd : ∀ i, (⟨blk, off, none⟩ : Addr).add i = ⟨blk, off + i, none⟩ := by
    intro i; unfold Addr.add; split
    · rename_i e; rw [e]; rfl
    · rfl
  obtain ⟨arr, e, fz, hobj⟩ : ∃ arr e fz, W.heap[blk]? = some (.cells arr e fz) := by
    have := h4 0 (by omega)
    unfold World.cell? at this
    rw [hadd] at this
    simp only at this
    split at this
    · rename_i c e fz hc; exact ⟨c, e, fz, hc⟩
    · cases this
  have hcell : ∀ i, i < C → arr[off + i]? = some (.bool (bs.getD i false)) := by
    intro i hi
    have := h4 i hi
    unfold World.cell? at this
    rw [hadd] at this
    simp only [hobj] at this
    simpa using this
  have hsz : off + C ≤ arr.size := by
    have := (Array.getElem?_eq_some_iff.1 (hcell (C - 1) (by omega))).1
    omega
  have htl : (bs.take n).length = n := by simp; omega
  let B : Blk := ⟨blk, off, arr.size, n⟩
  have hg : ∀ j o, (stB (bs.take n)).hp.get j = some o → j = 0 ∧ o = .cells (boolsL (bs.take n)) 0 3 := by
    intro j o hj
    have hj : (Tr.set .e 0 (some (.cells (boolsL (bs.take n)) 0 3))).get j = some o := hj
    rw [Tr.get_set _ _ _ _ (by omega)] at hj
    by_cases e : j = 0
    · rw [if_pos e] at hj; cases hj; exact ⟨e, rfl⟩
    · rw [if_neg e] at hj; cases hj
  refine ⟨inj0 B, ⟨Below.refl _ _, Nat.le_refl _, ?_, ?_, ?_, ?_, ?_, (by show 1 ≤ 500000001; decide)⟩, ?_⟩
  · intro j o hj
    obtain ⟨rfl, rfl⟩ := hg j o hj
    have hbl : (boolsL (bs.take n)).length = n := by simp [boolsL]; omega
    refine ⟨B, arr, e, fz, rfl, hobj, rfl, hbl.symm, (by show off + n ≤ arr.size; omega), ?_, ?_, .inl rfl⟩
    · rw [hbl]
      have : (arr.toList.drop off).take n = (bs.take n).map .bool := by
        apply List.ext_getElem?
        intro i
        by_cases hi : i < n
        · rw [List.getElem?_take_of_lt hi, List.getElem?_drop, List.getElem?_map, List.getElem?_take_of_lt hi]
          have := hcell i (by omega)
          rw [Array.getElem?_toList, this]
          have hib : i < bs.length := by omega
          simp [List.getD, hib]
        · rw [List.getElem?_eq_none (by simp; omega), List.getElem?_eq_none (by simp; omega)]
      show VRs ν (inj0 B) _ ((arr.toList.drop off).take n)
      rw [this]
      exact VRs_bools ν _ _
    · rw [atoms_iff]
      intro x hx
      simp only [boolsL, List.mem_map] at hx
      obtain ⟨b, _, rfl⟩ := hx; rfl
  · intro b B' hb
    show b < 1
    unfold inj0 at hb
    split at hb
    · omega
    · cases hb
  · intro b B' hb
    unfold inj0 at hb
    split at hb
    · cases hb; exact h2
    · cases hb
  · intro b cs c s hb
    obtain ⟨rfl, e⟩ := hg b _ hb
    cases e
    show 0 < 1
    omega
  · intro b b' o o' B1 B2 hne h5 h6
    exact absurd ((hg b o h5).1.trans (hg b' o' h6).1.symm) hne
  · simp only [slN, VR]
    exact ⟨B, _, C, rfl, rfl, h1, by omega, rfl, .inr rfl, by show n ≤ _; omega, by show off + 0 + C * 1 ≤ arr.size; omega⟩
end
end Go.Eng
