/- Regions that draw their order: the run in the order of the text, and what holds at whatever order. Conditions: none. -/
import Derived.Test.YthignahfnlgolaaGreatDoorEngD
namespace Go.Eng
open Go.RowKit (Below)

/-! ## the run in the order of the text -/
section
variable {C : Cfg} {rec : CallV}
def vAt (l : List DStep) (i : Nat) : LV := match l[i]? with | some x => x.v | none => .bad
/-- the frame behind those of L among the first -/
noncomputable def frOf (ds : List DOp) (fr0 : Fr) (v : Nat → LV) (L : Nat → Bool) : Nat → Fr
  | 0 => fr0
  | i + 1 => cond (L i) (setD (frOf ds fr0 v L i) (v i) (atD ds i).d) (frOf ds fr0 v L i)
theorem textRun_ok : ∀ {ds : List DOp} {fr : Fr} {σ : St} {l : List DStep} {f : Fr} {s : St}, textRun C rec ds fr σ = some (l, f, s) →
    l.length = ds.length ∧ (∀ i x, l[i]? = some x → ∃ d, ds[i]? = some d ∧ stepD C rec d x.fr x.σ = some (x.v, stAt l s (i + 1)) ∧ x.fr = frOf ds fr (vAt l) (fun _ => true) i) ∧
      stAt l s 0 = σ ∧ f = frOf ds fr (vAt l) (fun _ => true) ds.length
  | [], fr, σ, l, f, s, h => by
    simp only [textRun] at h
    cases h
    exact ⟨rfl, fun i x h => by simp at h, rfl, rfl⟩
  | o :: r, fr, σ, l, f, s, h => by
    simp only [textRun] at h
    split at h
    · rename_i v σ' hs
      split at h
      · rename_i l' f' s' hr
        cases h
        obtain ⟨h1, h2, h3, h4⟩ := textRun_ok hr
        have hfr : ∀ i, frOf (o :: r) fr (vAt (⟨fr, σ, v⟩ :: l')) (fun _ => true) (i + 1) = frOf r (setD fr v o.d) (vAt l') (fun _ => true) i := by
          intro i
          induction i with
          | zero => rfl
          | succ i ih =>
            show setD (frOf (o :: r) fr (vAt (⟨fr, σ, v⟩ :: l')) (fun _ => true) (i + 1)) _ _ = setD (frOf r (setD fr v o.d) (vAt l') (fun _ => true) i) _ _
            rw [ih]
            have e1 : vAt (⟨fr, σ, v⟩ :: l') (i + 1) = vAt l' i := by simp [vAt]
            have e2 : atD (o :: r) (i + 1) = atD r i := by simp [atD]
            rw [e1, e2]
        refine ⟨by simp [h1], ?_, rfl, ?_⟩
        · intro i x hx
          cases i with
          | zero =>
            simp only [List.getElem?_cons_zero, Option.some.injEq] at hx
            subst hx
            refine ⟨o, rfl, ?_, rfl⟩
            have : stAt (⟨fr, σ, v⟩ :: l') s (0 + 1) = σ' := by
              rw [← h3]; simp [stAt]
            rw [this]; exact hs
          | succ i =>
            simp only [List.getElem?_cons_succ] at hx
            obtain ⟨d, d1, d2, d3⟩ := h2 i x hx
            refine ⟨d, by simpa using d1, ?_, by rw [d3, hfr]⟩
            have : stAt (⟨fr, σ, v⟩ :: l') s (i + 1 + 1) = stAt l' s (i + 1) := by simp [stAt]
            rw [this]; exact d2
        · rw [h4]; simp only [List.length_cons]; rw [hfr]
      · cases h
    · cases h

/-! ## frames -/
variable {ds : List DOp} {fr0 : Fr} {v v' : Nat → LV} {L L' : Nat → Bool}
theorem setD_get {fr : Fr} {x : LV} {d : Option Nat} (hd : ∀ t, d = some t → t ≤ 100000) (t : Nat) : (setD fr x d).get t = if d = some t then some x else fr.get t := by
  cases d with
  | none => simp [setD]
  | some u =>
    simp only [setD]
    rw [Tr.get_set _ _ _ _ (by have := hd u rfl; omega)]
    by_cases e : t = u
    · subst e; simp
    · rw [if_neg e, if_neg (by intro q; cases q; exact e rfl)]
/-- who wrote it last -/
theorem frOf_get (hd : ∀ i t, (atD ds i).d = some t → t ≤ 100000) (t : Nat) : ∀ n, ((frOf ds fr0 v L n).get t = fr0.get t ∧ ∀ k, k < n → L k = true → (atD ds k).d ≠ some t) ∨
    ∃ k, k < n ∧ L k = true ∧ (atD ds k).d = some t ∧ (frOf ds fr0 v L n).get t = some (v k) ∧ ∀ j, k < j → j < n → L j = true → (atD ds j).d ≠ some t
  | 0 => .inl ⟨rfl, fun k hk => absurd hk (by omega)⟩
  | n + 1 => by
    have ih := frOf_get hd t n
    simp only [frOf]
    cases hL : L n with
    | false =>
      rw [cond_false]
      rcases ih with ⟨h1, h2⟩ | ⟨k, h1, h2, h3, h4, h5⟩
      · refine .inl ⟨h1, fun k hk hk2 => ?_⟩
        by_cases e : k = n
        · subst e; rw [hL] at hk2; cases hk2
        · exact h2 k (by omega) hk2
      · refine .inr ⟨k, by omega, h2, h3, h4, fun j h6 h7 h8 => ?_⟩
        by_cases e : j = n
        · subst e; rw [hL] at h8; cases h8
        · exact h5 j h6 (by omega) h8
    | true =>
      rw [cond_true, setD_get (hd n)]
      by_cases e : (atD ds n).d = some t
      · rw [if_pos e]
        exact .inr ⟨n, by omega, hL, e, rfl, fun j h6 h7 => absurd h6 (by omega)⟩
      · rw [if_neg e]
        rcases ih with ⟨h1, h2⟩ | ⟨k, h1, h2, h3, h4, h5⟩
        · refine .inl ⟨h1, fun k hk hk2 => ?_⟩
          by_cases q : k = n
          · subst q; exact e
          · exact h2 k (by omega) hk2
        · refine .inr ⟨k, by omega, h2, h3, h4, fun j h6 h7 h8 => ?_⟩
          by_cases q : j = n
          · subst q; exact e
          · exact h5 j h6 (by omega) h8
/-- two frames agree at t where the same ones wrote it, the same -/
theorem frOf_agree (hd : ∀ i t, (atD ds i).d = some t → t ≤ 100000) {t i n : Nat} (hi : i ≤ n) (h1 : ∀ k, k < i → (atD ds k).d = some t → L k = true ∧ L' k = true ∧ v k = v' k) (h2 : ∀ k, i ≤ k → k < n → (atD ds k).d = some t → L k = false) :
    (frOf ds fr0 v L n).get t = (frOf ds fr0 v' L' i).get t := by
  have below : ∀ j, j ≤ i → (frOf ds fr0 v L j).get t = (frOf ds fr0 v' L' j).get t := by
    intro j
    induction j with
    | zero => intro _; rfl
    | succ j ih =>
      intro hj
      have ih := ih (by omega)
      simp only [frOf]
      by_cases e : (atD ds j).d = some t
      · obtain ⟨a1, a2, a3⟩ := h1 j (by omega) e
        rw [a1, a2, cond_true, cond_true, setD_get (hd j), setD_get (hd j), if_pos e, if_pos e, a3]
      · have : ∀ (b : Bool) (f : Fr) (x : LV), (cond b (setD f x (atD ds j).d) f).get t = f.get t := by
          intro b f x
          cases b with
          | true => rw [cond_true, setD_get (hd j), if_neg e]
          | false => rfl
        rw [this, this, ih]
  have above : ∀ j, i ≤ j → j ≤ n → (frOf ds fr0 v L j).get t = (frOf ds fr0 v L i).get t := by
    intro j
    induction j with
    | zero => intro h _; have : i = 0 := by omega
              subst this; rfl
    | succ j ih =>
      intro h h'
      by_cases q : i = j + 1
      · rw [q]
      · have ih := ih (by omega) (by omega)
        rw [← ih]
        simp only [frOf]
        by_cases e : (atD ds j).d = some t
        · rw [h2 j (by omega) (by omega) e]; rfl
        · cases L j with
          | true => rw [cond_true, setD_get (hd j), if_neg e]
          | false => rfl
  rw [above n hi (Nat.le_refl _), below i (Nat.le_refl _)]
end

section
variable {ν : Nat → Int} {base : Nat} {W w : World} {σ : St} {ι ι' : Inj}
/-! ## a new map that was made earlier -/
theorem Rep.alloc_unknown (H : Rep ν base W σ ι w) (obj : Obj) : Rep ν base W σ ι (w.alloc obj) ∧ Step ι w ι (w.alloc obj) := by
  refine ⟨⟨H.below.alloc H.hbase obj, by simpa using Nat.le_succ_of_le H.hbase, ?_, H.fresh, ?_, H.cls, H.apart, H.nx⟩, ι.le_refl, by simp, fun b B h k => (by rw [h] at k; cases k), fun k hk _ => Below.heap_alloc _ _ _ hk⟩
  · intro b o hb
    exact (H.obj b o hb).keep ι.le_refl fun B hB => Below.heap_alloc _ _ _ (H.blk _ _ hB)
  · intro b B hb
    have := H.blk _ _ hb
    simp; omega
theorem Rep.adopt (H : Rep ν base W σ ι w) {blk : Nat} (hb : base ≤ blk) (hlt : blk < w.heap.size) (hobj : w.heap[blk]? = some (.map #[] 0)) (hno : ∀ b B, ι b = some B → B.blk ≠ blk) (hn : σ.nx ≤ 500000000) :
    Rep ν base W ⟨σ.hp.set σ.nx (some (.map [] 0)), σ.nx + 1⟩ (ι.put σ.nx ⟨blk, 0, 0, 0⟩) w := by
  have hle := Inj.le_put ⟨blk, 0, 0, 0⟩ H.unfresh
  have hg : ∀ j, (σ.hp.set σ.nx (some (.map [] 0))).get j = if j = σ.nx then some (.map [] 0) else σ.hp.get j := fun j => Tr.get_set _ _ _ _ (by omega)
  refine ⟨H.below, H.hbase, ?_, ?_, ?_, ?_, ?_, ?_⟩
  · intro b o' h
    rw [hg] at h
    by_cases e : b = σ.nx
    · subst e; rw [if_pos rfl] at h; cases h
      exact ⟨⟨blk, 0, 0, 0⟩, #[], Inj.put_same .., hb, hobj, rfl, by simp⟩
    · rw [if_neg e] at h
      exact (H.obj b o' h).keep hle fun B' hB' => rfl
  · intro b B' h
    by_cases e : b = σ.nx
    · subst e; exact Nat.lt_succ_self _
    · rw [Inj.put_other _ _ e] at h; exact Nat.lt_succ_of_lt (H.fresh _ _ h)
  · intro b B' h
    by_cases e : b = σ.nx
    · subst e; rw [Inj.put_same] at h; cases h; exact hlt
    · rw [Inj.put_other _ _ e] at h; exact H.blk _ _ h
  · intro b cs c s h
    rw [hg] at h
    by_cases e : b = σ.nx
    · subst e; rw [if_pos rfl] at h; cases h
    · rw [if_neg e] at h; exact Nat.lt_succ_of_lt (H.cls _ _ _ _ h)
  · intro b b' o1 o2 B1 B2 hne h1 h2 hB1 hB2 heq
    rw [hg] at h1 h2
    by_cases e : b = σ.nx
    · subst e
      have e' : b' ≠ σ.nx := fun q => hne q.symm
      rw [Inj.put_same] at hB1; cases hB1
      rw [Inj.put_other _ _ e'] at hB2
      exact absurd heq.symm (hno _ _ hB2)
    · by_cases e' : b' = σ.nx
      · subst e'
        rw [Inj.put_same] at hB2; cases hB2
        rw [Inj.put_other _ _ e] at hB1
        exact absurd heq (hno _ _ hB1)
      · rw [if_neg e] at h1; rw [if_neg e'] at h2
        rw [Inj.put_other _ _ e] at hB1; rw [Inj.put_other _ _ e'] at hB2
        exact H.apart _ _ _ _ _ _ hne h1 h2 hB1 hB2 heq
  · show σ.nx + 1 ≤ _; omega
theorem Step.adopt {ι0 : Inj} {w0 : World} (h : Step ι0 w0 ι w) {n : Nat} {B : Blk} (hn : ι n = none) (hb : w0.heap.size ≤ B.blk) : Step ι0 w0 (ι.put n B) w := by
  refine ⟨Inj.le_trans h.le (Inj.le_put B hn), h.size, ?_, h.old⟩
  intro b B' hB' hno
  by_cases e : b = n
  · subst e; rw [Inj.put_same] at hB'; cases hB'; exact .inl hb
  · rw [Inj.put_other _ _ e] at hB'; exact h.new b B' hB' hno
end
end Go.Eng
