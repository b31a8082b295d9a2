/- What the symbolic executor's memory means, and how it follows the model's heap: new blocks, writes, appends in place. Conditions: none. -/
import Derived.Test.YthignahfnlgolaaGreatDoorEngRel
namespace Go.Eng
open Go.RowKit (Below)

/-! ## objects -/
def ERs (ν : Nat → Int) (ι : Inj) : List (LV × LV × Nat) → List MapEntry → Prop
  | [], l => l = []
  | e :: r, l => ∃ m t, l = m :: t ∧ VR ν ι e.1 m.key ∧ VR ν ι e.2.1 m.val ∧ m.born = e.2.2 ∧ ERs ν ι r t
theorem ERs.mono {ν : Nat → Int} {ι ι' : Inj} (hi : ι.le ι') : ∀ (es : List (LV × LV × Nat)) (ms : List MapEntry), ERs ν ι es ms → ERs ν ι' es ms
  | [], _, h => h
  | _ :: r, _, ⟨m, t, e, h1, h2, h3, h4⟩ => ⟨m, t, e, h1.mono hi, h2.mono hi, h3, ERs.mono hi r t h4⟩

/-- an object of the executor's memory, at a block of the world -/
def OR (ν : Nat → Int) (base : Nat) (w : World) (ι : Inj) (b : Nat) : LO → Prop
  | .cells cs _ st => ∃ B arr e fz, ι b = some B ∧ w.heap[B.blk]? = some (.cells arr e fz) ∧ arr.size = B.n ∧ B.m = cs.length ∧ B.base + B.m ≤ B.n ∧
      VRs ν ι cs ((arr.toList.drop B.base).take cs.length) ∧ atoms cs = true ∧ (st = 3 ∨ (st ≤ 2 ∧ base ≤ B.blk ∧ fz = (0, 0)))
  | .map es c => ∃ B ms, ι b = some B ∧ base ≤ B.blk ∧ w.heap[B.blk]? = some (.map ms c) ∧ ERs ν ι es ms.toList ∧ (∀ e ∈ es, e.2.2 < c)
  | .mit m since seen last => ∃ B m', ι b = some B ∧ B.base = 0 ∧ base ≤ B.blk ∧ w.heap[B.blk]? = some (.mapIter m' since seen.toArray last) ∧
      (match m with | none => m' = none | some r => ∃ B', ι r = some B' ∧ m' = some B'.blk)

/-- may two objects lie in one block? -/
def Shares (B B' : Blk) : LO → LO → Prop
  | .cells _ c s, .cells _ c' s' => (s = 3 ∧ s' = 3) ∨ (c = c' ∧ 1 ≤ s ∧ s ≤ 2 ∧ 1 ≤ s' ∧ s' ≤ 2 ∧ (s' = 1 → B.base + B.m ≤ B'.base + B'.m) ∧ (s = 1 → B'.base + B'.m ≤ B.base + B.m) ∧ ¬ (s = 1 ∧ s' = 1))
  | _, _ => False

structure Rep (ν : Nat → Int) (base : Nat) (W : World) (σ : St) (ι : Inj) (w : World) : Prop where
  below : Below base W w
  hbase : base ≤ w.heap.size
  obj : ∀ b o, σ.hp.get b = some o → OR ν base w ι b o
  fresh : ∀ b B, ι b = some B → b < σ.nx
  blk : ∀ b B, ι b = some B → B.blk < w.heap.size
  cls : ∀ b cs c s, σ.hp.get b = some (.cells cs c s) → c < σ.nx
  apart : ∀ b b' o o' B B', b ≠ b' → σ.hp.get b = some o → σ.hp.get b' = some o' → ι b = some B → ι b' = some B' → B.blk = B'.blk → Shares B B' o o'
  nx : σ.nx ≤ 500000001

/-- what a step does to the world: what is not known stays -/
structure Step (ι : Inj) (w : World) (ι' : Inj) (w' : World) : Prop where
  le : ι.le ι'
  size : w.heap.size ≤ w'.heap.size
  new : ∀ b B, ι' b = some B → ι b = none → w.heap.size ≤ B.blk ∨ ∃ b0 B0, ι b0 = some B0 ∧ B0.blk = B.blk
  old : ∀ k, k < w.heap.size → (∀ b B, ι b = some B → B.blk ≠ k) → w'.heap[k]? = w.heap[k]?
theorem Step.refl (ι : Inj) (w : World) : Step ι w ι w := ⟨ι.le_refl, Nat.le_refl _, fun b B h k => (by rw [h] at k; cases k), fun _ _ _ => rfl⟩
theorem Step.trans {ι ι' ι'' : Inj} {w w' w'' : World} (h : Step ι w ι' w') (k : Step ι' w' ι'' w'') : Step ι w ι'' w'' := by
  refine ⟨Inj.le_trans h.le k.le, Nat.le_trans h.size k.size, ?_, ?_⟩
  · intro b B hB hn
    cases e : ι' b with
    | some B1 =>
      have := k.le _ _ e; rw [this] at hB; cases hB
      exact h.new b _ e hn
    | none =>
      rcases k.new b B hB e with h1 | ⟨b0, B0, h1, h2⟩
      · exact .inl (Nat.le_trans h.size h1)
      · cases e0 : ι b0 with
        | some B2 => have := h.le _ _ e0; rw [this] at h1; cases h1; exact .inr ⟨b0, _, e0, h2⟩
        | none =>
          rcases h.new b0 B0 h1 e0 with h3 | ⟨b1, B1, h3, h4⟩
          · exact .inl (by omega)
          · exact .inr ⟨b1, B1, h3, h4.trans h2⟩
  · intro j hj hno
    rw [k.old j (Nat.lt_of_lt_of_le hj h.size), h.old j hj hno]
    intro b B hB
    cases e0 : ι b with
    | some B2 => have := h.le _ _ e0; rw [this] at hB; cases hB; exact hno _ _ e0
    | none =>
      rcases h.new b B hB e0 with h3 | ⟨b1, B1, h3, h4⟩
      · omega
      · rw [← h4]; exact hno _ _ h3

section
variable {ν : Nat → Int} {base : Nat} {W w w' : World} {σ : St} {ι ι' : Inj}

theorem OR.keep {b : Nat} {o : LO} (h : OR ν base w ι b o) (hi : ι.le ι') (hk : ∀ B, ι b = some B → w'.heap[B.blk]? = w.heap[B.blk]?) : OR ν base w' ι' b o := by
  cases o with
  | cells cs c st =>
    obtain ⟨B, arr, e, fz, h1, h2, h3, h4, h5, h6, h7, h8⟩ := h
    exact ⟨B, arr, e, fz, hi _ _ h1, by rw [hk _ h1]; exact h2, h3, h4, h5, h6.mono hi, h7, h8⟩
  | map es c =>
    obtain ⟨B, ms, h1, h2, h3, h4, h5⟩ := h
    exact ⟨B, ms, hi _ _ h1, h2, by rw [hk _ h1]; exact h3, h4.mono hi, h5⟩
  | mit m since seen last =>
    obtain ⟨B, m', h1, h2, h3, h4, h5⟩ := h
    refine ⟨B, m', hi _ _ h1, h2, h3, by rw [hk _ h1]; exact h4, ?_⟩
    cases m with
    | none => exact h5
    | some r => obtain ⟨B', h6, h7⟩ := h5; exact ⟨B', hi _ _ h6, h7⟩
theorem OR.some {b : Nat} {o : LO} (h : OR ν base w ι b o) : ∃ B, ι b = some B := by
  cases o with
  | cells => obtain ⟨B, _, _, _, h, _⟩ := h; exact ⟨B, h⟩
  | map => obtain ⟨B, _, h, _⟩ := h; exact ⟨B, h⟩
  | mit => obtain ⟨B, _, h, _⟩ := h; exact ⟨B, h⟩
theorem Rep.lt (h : Rep ν base W σ ι w) {b : Nat} {o : LO} (hb : σ.hp.get b = some o) : b < σ.nx := by
  obtain ⟨B, hB⟩ := (h.obj b o hb).some; exact h.fresh b B hB
theorem Shares.symm {B B' : Blk} {o o' : LO} (h : Shares B B' o o') : Shares B' B o' o := by
  cases o <;> cases o' <;> first
    | exact h.elim
    | (rcases h with ⟨h1, h2⟩ | ⟨h1, h2, h3, h4, h5, h6, h7, h8⟩
       · exact .inl ⟨h2, h1⟩
       · exact .inr ⟨h1.symm, h4, h5, h2, h3, h7, h6, fun q => h8 ⟨q.2, q.1⟩⟩)

/-! ## a draw -/
theorem Rep.drew (h : Rep ν base W σ ι w) : Rep ν base W σ ι w.drew :=
  ⟨h.below.drew, h.hbase, fun b o hb => h.obj b o hb, h.fresh, h.blk, h.cls, h.apart, h.nx⟩
theorem Step.drew (ι : Inj) (w : World) : Step ι w ι w.drew := ⟨ι.le_refl, Nat.le_refl _, fun b B h k => (by rw [h] at k; cases k), fun _ _ _ => rfl⟩

/-! ## a new block -/
def Inj.put (ι : Inj) (n : Nat) (B : Blk) : Inj := fun b => if b = n then some B else ι b
theorem Inj.put_same (ι : Inj) (n : Nat) (B : Blk) : ι.put n B n = some B := by simp [Inj.put]
theorem Inj.put_other (ι : Inj) {n b : Nat} (B : Blk) (h : b ≠ n) : ι.put n B b = ι b := by simp [Inj.put, h]
theorem Inj.le_put {ι : Inj} {n : Nat} (B : Blk) (h : ι n = none) : ι.le (ι.put n B) := by
  intro b B' hb
  by_cases e : b = n
  · subst e; rw [h] at hb; cases hb
  · rw [Inj.put_other _ _ e]; exact hb
theorem Rep.unfresh (h : Rep ν base W σ ι w) : ι σ.nx = none := by
  cases e : ι σ.nx with
  | none => rfl
  | some B => exact absurd (h.fresh _ _ e) (Nat.lt_irrefl _)
def newB (w : World) (n m : Nat) : Blk := ⟨w.heap.size, 0, n, m⟩

theorem Rep.alloc (h : Rep ν base W σ ι w) (obj : Obj) (o : LO) (B : Blk) (hB : B.blk = w.heap.size)
    (ho : OR ν base (w.alloc obj) (ι.put σ.nx B) σ.nx o) (hc : ∀ cs c s, o = .cells cs c s → c ≤ σ.nx) (hn : σ.nx ≤ 500000000) :
    Rep ν base W ⟨σ.hp.set σ.nx (some o), σ.nx + 1⟩ (ι.put σ.nx B) (w.alloc obj) ∧ Step ι w (ι.put σ.nx B) (w.alloc obj) := by
  have hle := Inj.le_put B h.unfresh
  have hg : ∀ j, (σ.hp.set σ.nx (some o)).get j = if j = σ.nx then some o else σ.hp.get j := fun j => Tr.get_set _ _ _ _ (by omega)
  have hother : ∀ {b : Nat} {o' : LO}, σ.hp.get b = some o' → b ≠ σ.nx := fun hb e => Nat.lt_irrefl _ (e ▸ h.lt hb)
  have hblk : ∀ {b : Nat} {B' : Blk}, ι b = some B' → (w.alloc obj).heap[B'.blk]? = w.heap[B'.blk]? := fun hb => Below.heap_alloc _ _ _ (h.blk _ _ hb)
  refine ⟨⟨h.below.alloc h.hbase obj, by simpa using Nat.le_succ_of_le h.hbase, ?_, ?_, ?_, ?_, ?_, ?_⟩, hle, by simp, ?_, ?_⟩
  · intro b o' hb
    rw [hg] at hb
    by_cases e : b = σ.nx
    · subst e; rw [if_pos rfl] at hb; cases hb; exact ho
    · rw [if_neg e] at hb
      exact (h.obj b o' hb).keep hle fun B' hB' => hblk hB'
  · intro b B' hb
    by_cases e : b = σ.nx
    · subst e; exact Nat.lt_succ_self _
    · rw [Inj.put_other _ _ e] at hb; exact Nat.lt_succ_of_lt (h.fresh _ _ hb)
  · intro b B' hb
    by_cases e : b = σ.nx
    · subst e; rw [Inj.put_same] at hb; cases hb; rw [hB]; simp
    · rw [Inj.put_other _ _ e] at hb; have := h.blk _ _ hb; simp; omega
  · intro b cs c s hb
    rw [hg] at hb
    by_cases e : b = σ.nx
    · subst e; rw [if_pos rfl] at hb; cases hb; exact Nat.lt_succ_of_le (hc _ _ _ rfl)
    · rw [if_neg e] at hb; exact Nat.lt_succ_of_lt (h.cls _ _ _ _ hb)
  · intro b b' o1 o2 B1 B2 hne h1 h2 hB1 hB2 heq
    rw [hg] at h1 h2
    by_cases e : b = σ.nx
    · by_cases e' : b' = σ.nx
      · exact absurd (e.trans e'.symm) hne
      · subst e; rw [Inj.put_same] at hB1; cases hB1
        rw [Inj.put_other _ _ e'] at hB2; have := h.blk _ _ hB2; omega
    · by_cases e' : b' = σ.nx
      · subst e'; rw [Inj.put_same] at hB2; cases hB2
        rw [Inj.put_other _ _ e] at hB1; have := h.blk _ _ hB1; omega
      · rw [if_neg e] at h1; rw [if_neg e'] at h2
        rw [Inj.put_other _ _ e] at hB1; rw [Inj.put_other _ _ e'] at hB2
        exact h.apart _ _ _ _ _ _ hne h1 h2 hB1 hB2 heq
  · show σ.nx + 1 ≤ _; omega
  · intro b B' hb hn'
    by_cases e : b = σ.nx
    · subst e; rw [Inj.put_same] at hb; cases hb; exact .inl (Nat.le_of_eq hB.symm)
    · rw [Inj.put_other _ _ e] at hb; rw [hb] at hn'; cases hn'
  · intro k hk _; exact Below.heap_alloc _ _ _ hk

/-! ## a change of one block -/
structure Chg (w w' : World) (g : Nat) (o : Obj) : Prop where
  os : w'.os = w.os
  tape : w'.tape = w.tape
  output : w'.output = w.output
  size : w'.heap.size = w.heap.size
  at_ : w'.heap[g]? = some o
  other : ∀ k, k ≠ g → w'.heap[k]? = w.heap[k]?
theorem Chg.below {g : Nat} {o : Obj} (h : Chg w w' g o) (hb : Below base W w) (hg : base ≤ g) : Below base W w' :=
  hb.trans ⟨h.os, h.tape, h.output, Nat.le_of_eq h.size.symm, fun k hk => h.other k (by omega)⟩

theorem others_spec (cls keep b : Nat) (o : LO) : others cls keep b o = true ↔ (∀ cs c s, o = .cells cs c s → c = cls → b = keep) := by
  cases o with
  | cells cs c s =>
    simp only [others]
    cases e : Nat.beq c cls with
    | true =>
      rw [cond_true, natBeq]
      rw [natBeq] at e
      exact ⟨fun h cs' c' s' h1 h2 => h, fun h => h cs c s rfl e⟩
    | false =>
      rw [cond_false]
      refine ⟨fun _ cs' c' s' h1 h2 => ?_, fun _ => rfl⟩
      cases h1
      rw [← natBeq, e] at h2; cases h2
  | map => simp [others]
  | mit => simp [others]
theorem forget_get (t : Tr LO) (cls keep j : Nat) : (forget t cls keep).get j = (t.get j).bind fun x => if others cls keep j x = true then some x else none := by
  simp only [forget]; rw [Tr.get_keep]; simp

/-- a state of which some objects are forgotten -/
theorem Rep.less (h : Rep ν base W σ ι w) (hp : Tr LO) (hs : ∀ b o, hp.get b = some o → σ.hp.get b = some o) : Rep ν base W ⟨hp, σ.nx⟩ ι w :=
  ⟨h.below, h.hbase, fun b o hb => h.obj b o (hs _ _ hb), h.fresh, h.blk, fun b cs c s hb => h.cls b cs c s (hs _ _ hb),
    fun b b' o o' B B' hne h1 h2 => h.apart b b' o o' B B' hne (hs _ _ h1) (hs _ _ h2), h.nx⟩
theorem forget_less (t : Tr LO) (cls keep : Nat) : ∀ b o, (forget t cls keep).get b = some o → t.get b = some o := by
  intro b o hb
  rw [forget_get] at hb
  cases e : t.get b with
  | none => rw [e] at hb; cases hb
  | some x =>
    rw [e] at hb
    simp only [Option.bind_some] at hb
    split at hb
    · exact hb
    · cases hb

/-- a change of an object that is alone in its block -/
theorem Rep.change (h : Rep ν base W σ ι w) {b : Nat} {B : Blk} {o : LO} {obj : Obj} (hB : ι b = some B) (hb : base ≤ B.blk)
    (hal : ∀ b' o' B', b' ≠ b → σ.hp.get b' = some o' → ι b' = some B' → B'.blk ≠ B.blk)
    (hc : Chg w w' B.blk obj) (ho : OR ν base w' ι b o) (hcl : ∀ cs c s, o = .cells cs c s → c < σ.nx) :
    Rep ν base W ⟨σ.hp.set b (some o), σ.nx⟩ ι w' ∧ Step ι w ι w' := by
  have hlt := h.fresh _ _ hB
  have hnx := h.nx
  have hg : ∀ j, (σ.hp.set b (some o)).get j = if j = b then some o else σ.hp.get j := fun j => Tr.get_set _ _ _ _ (by omega)
  refine ⟨⟨hc.below h.below hb, by rw [hc.size]; exact h.hbase, ?_, h.fresh, ?_, ?_, ?_, h.nx⟩, ι.le_refl, Nat.le_of_eq hc.size.symm, ?_, ?_⟩
  · intro j o' hj
    rw [hg] at hj
    by_cases e : j = b
    · subst e; rw [if_pos rfl] at hj; cases hj; exact ho
    · rw [if_neg e] at hj
      exact (h.obj j o' hj).keep ι.le_refl fun B' hB' => hc.other _ (hal j o' B' e hj hB')
  · intro j B' hj; rw [hc.size]; exact h.blk _ _ hj
  · intro j cs c s hj
    rw [hg] at hj
    by_cases e : j = b
    · subst e; rw [if_pos rfl] at hj; cases hj; exact hcl _ _ _ rfl
    · rw [if_neg e] at hj; exact h.cls _ _ _ _ hj
  · intro j j' o1 o2 B1 B2 hne h1 h2 hB1 hB2 heq
    rw [hg] at h1 h2
    by_cases e : j = b
    · subst e
      rw [if_neg (fun e' => hne e'.symm)] at h2
      rw [hB] at hB1; cases hB1
      exact absurd heq.symm (hal j' o2 B2 (fun e' => hne e'.symm) h2 hB2)
    · by_cases e' : j' = b
      · subst e'
        rw [if_neg e] at h1
        rw [hB] at hB2; cases hB2
        exact absurd heq (hal j o1 B1 e h1 hB1)
      · rw [if_neg e] at h1; rw [if_neg e'] at h2
        exact h.apart _ _ _ _ _ _ hne h1 h2 hB1 hB2 heq
  · intro j B' hj hn; rw [hj] at hn; cases hn
  · intro k hk hno; exact hc.other k (fun e => hno _ _ hB e.symm)
/-- a new object in a block that is there already -/
theorem Rep.inplace (h : Rep ν base W σ ι w) {B B0 : Blk} {b0 : Nat} {o : LO} {obj : Obj} (hbase : base ≤ B.blk) (hB0 : ι b0 = some B0) (he : B0.blk = B.blk)
    (hc : Chg w w' B.blk obj) (ho : OR ν base w' (ι.put σ.nx B) σ.nx o) (hcl : ∀ cs c s, o = .cells cs c s → c ≤ σ.nx)
    (hoth : ∀ b' o' B', σ.hp.get b' = some o' → ι b' = some B' → B'.blk = B.blk → OR ν base w' ι b' o' ∧ Shares B' B o' o) (hn : σ.nx ≤ 500000000) :
    Rep ν base W ⟨σ.hp.set σ.nx (some o), σ.nx + 1⟩ (ι.put σ.nx B) w' ∧ Step ι w (ι.put σ.nx B) w' := by
  have hle := Inj.le_put B h.unfresh
  have hg : ∀ j, (σ.hp.set σ.nx (some o)).get j = if j = σ.nx then some o else σ.hp.get j := fun j => Tr.get_set _ _ _ _ (by omega)
  refine ⟨⟨hc.below h.below hbase, by rw [hc.size]; exact h.hbase, ?_, ?_, ?_, ?_, ?_, ?_⟩, hle, Nat.le_of_eq hc.size.symm, ?_, ?_⟩
  · intro b o' hb
    rw [hg] at hb
    by_cases e : b = σ.nx
    · subst e; rw [if_pos rfl] at hb; cases hb; exact ho
    · rw [if_neg e] at hb
      obtain ⟨B', hB'⟩ := (h.obj b o' hb).some
      by_cases e2 : B'.blk = B.blk
      · exact (hoth b o' B' hb hB' e2).1.keep hle fun _ _ => rfl
      · exact (h.obj b o' hb).keep hle fun B'' hB'' => by rw [hB'] at hB''; cases hB''; exact hc.other _ e2
  · intro b B' hb
    by_cases e : b = σ.nx
    · subst e; exact Nat.lt_succ_self _
    · rw [Inj.put_other _ _ e] at hb; exact Nat.lt_succ_of_lt (h.fresh _ _ hb)
  · intro b B' hb
    rw [hc.size]
    by_cases e : b = σ.nx
    · subst e; rw [Inj.put_same] at hb; cases hb; rw [← he]; exact h.blk _ _ hB0
    · rw [Inj.put_other _ _ e] at hb; exact h.blk _ _ hb
  · intro b cs c s hb
    rw [hg] at hb
    by_cases e : b = σ.nx
    · subst e; rw [if_pos rfl] at hb; cases hb; exact Nat.lt_succ_of_le (hcl _ _ _ rfl)
    · rw [if_neg e] at hb; exact Nat.lt_succ_of_lt (h.cls _ _ _ _ hb)
  · intro b b' o1 o2 B1 B2 hne h1 h2 hB1 hB2 heq
    rw [hg] at h1 h2
    by_cases e : b = σ.nx
    · subst e
      have e' : b' ≠ σ.nx := fun q => hne q.symm
      rw [if_pos rfl] at h1; cases h1
      rw [if_neg e'] at h2
      rw [Inj.put_same] at hB1; cases hB1
      rw [Inj.put_other _ _ e'] at hB2
      exact (hoth b' o2 B2 h2 hB2 heq.symm).2.symm
    · by_cases e' : b' = σ.nx
      · subst e'
        rw [if_pos rfl] at h2; cases h2
        rw [if_neg e] at h1
        rw [Inj.put_same] at hB2; cases hB2
        rw [Inj.put_other _ _ e] at hB1
        exact (hoth b o1 B1 h1 hB1 heq).2
      · rw [if_neg e] at h1; rw [if_neg e'] at h2
        rw [Inj.put_other _ _ e] at hB1; rw [Inj.put_other _ _ e'] at hB2
        exact h.apart _ _ _ _ _ _ hne h1 h2 hB1 hB2 heq
  · show σ.nx + 1 ≤ _; omega
  · intro b B' hb hn'
    by_cases e : b = σ.nx
    · subst e; rw [Inj.put_same] at hb; cases hb; exact .inr ⟨b0, B0, hB0, he⟩
    · rw [Inj.put_other _ _ e] at hb; rw [hb] at hn'; cases hn'
  · intro k _ hno; exact hc.other k (fun e => hno _ _ hB0 (he.trans e.symm))
/-- another mark on an object that may share its block -/
theorem Rep.mark2 (h : Rep ν base W σ ι w) {b : Nat} {cs : List LV} {c s : Nat} (hb : σ.hp.get b = some (.cells cs c s)) (hs : s ≤ 2) (hlt : b ≤ 500000001) :
    Rep ν base W ⟨σ.hp.set b (some (.cells cs c 2)), σ.nx⟩ ι w := by
  have hg : ∀ j, (σ.hp.set b (some (.cells cs c 2))).get j = if j = b then some (.cells cs c 2) else σ.hp.get j := fun j => Tr.get_set _ _ _ _ hlt
  refine ⟨h.below, h.hbase, ?_, h.fresh, h.blk, ?_, ?_, h.nx⟩
  · intro j o hj
    rw [hg] at hj
    by_cases e : j = b
    · subst e; rw [if_pos rfl] at hj; cases hj
      obtain ⟨B, arr, e, fz, h1, h2, h3, h4, h5, h6, h7, h8⟩ := h.obj _ _ hb
      exact ⟨B, arr, e, fz, h1, h2, h3, h4, h5, h6, h7, .inr ⟨Nat.le_refl _, (h8.resolve_left (by omega)).2⟩⟩
    · rw [if_neg e] at hj; exact h.obj _ _ hj
  · intro j cs' c' s' hj
    rw [hg] at hj
    by_cases e : j = b
    · subst e; rw [if_pos rfl] at hj; cases hj; exact h.cls _ _ _ _ hb
    · rw [if_neg e] at hj; exact h.cls _ _ _ _ hj
  · have main : ∀ b' o' B B', b' ≠ b → σ.hp.get b' = some o' → ι b = some B → ι b' = some B' → B.blk = B'.blk → Shares B B' (.cells cs c 2) o' := by
      intro b' o' B B' hne hb' hB hB' heq
      have := h.apart b b' _ _ B B' (Ne.symm hne) hb hb' hB hB' heq
      cases o' with
      | cells cs' c' s' =>
        rcases this with ⟨h1, _⟩ | ⟨h1, h2, h3, h4, h5, h6, h7, h8⟩
        · omega
        · exact .inr ⟨h1, by omega, by omega, h4, h5, h6, fun q => by omega, fun q => by omega⟩
      | map => exact this
      | mit => exact this
    intro j j' o1 o2 B1 B2 hne h1 h2 hB1 hB2 heq
    rw [hg] at h1 h2
    by_cases e : j = b
    · subst e
      rw [if_pos rfl] at h1; cases h1
      rw [if_neg (fun q => hne q.symm)] at h2
      exact main j' o2 B1 B2 (fun q => hne q.symm) h2 hB1 hB2 heq
    · by_cases e' : j' = b
      · subst e'
        rw [if_pos rfl] at h2; cases h2
        rw [if_neg e] at h1
        exact (main j o1 B2 B1 e h1 hB2 hB1 heq.symm).symm
      · rw [if_neg e] at h1; rw [if_neg e'] at h2
        exact h.apart _ _ _ _ _ _ hne h1 h2 hB1 hB2 heq
end
end Go.Eng
