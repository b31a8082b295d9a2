/- Regions that draw their order: what holds in between. Conditions: none. -/
import Derived.Test.YthignahfnlgolaaGreatDoorEngD3
namespace Go.Eng
open Go.RowKit (Below)

def k2 : K (LV × St) := fun v σ => some (v, σ)
/-- what the run in the order of the text gave -/
structure TOk (C : Cfg) (rec : CallV) (ops : Array Oper) (ds : List DOp) (fr0 : Fr) (v : Nat → LV) (S : Nat → St) : Prop where
  text : ∀ i, i < ops.size → stepD C rec (atD ds i) (frOf ds fr0 v (fun _ => true) i) (S i) = some (v i, S (i + 1))
  reads : ∀ i p, i < ops.size → (atD ds i).o = .p p → readsMem p = true → wantedD (atD ds i) (frOf ds fr0 v (fun _ => true) i) = true → ∀ q, q ≤ ops.size → cand ds q = true → allowed ds i q = true →
    runP C [] (frOf ds fr0 v (fun _ => true) i) (S q) (fun v => some v) p = some (v i)
/-- the one new map is not known yet where the state is one ahead of it -/
def vq (fl : Nat) (v : Nat → LV) (q i : Nat) : LV := if i = fl ∧ q ≤ fl then .bad else v i
/-- the one new map was made, and is untouched -/
def Pend (ds : List DOp) (fl : Nat) (w0 : World) (ι : Inj) (a : Act) (w : World) : Prop :=
  ∃ blk, w0.heap.size ≤ blk ∧ blk < w.heap.size ∧ w.heap[blk]? = some (.map #[] 0) ∧ (∀ b B, ι b = some B → B.blk ≠ blk) ∧ ∀ t, (atD ds fl).d = some t → a.tmps.getD t undef = .map (some blk)
structure DInv (ν : Nat → Int) (base : Nat) (W : World) (mask nt : Nat) (ops : Array Oper) (ds : List DOp) (fl : Nat) (ι0 : Inj) (w0 : World) (fr0 : Fr) (v : Nat → LV) (S : Nat → St) (L : Nat → Bool) (q : Nat) (ι : Inj) (a : Act) (w : World) : Prop where
  step : Step ι0 w0 ι w
  rep : Rep ν base W (S q) ι w
  qn : q ≤ ops.size
  canon : cand ds q = true
  closed : ∀ i, i < ops.size → L i = true → ∀ k, (atD ds i).b.testBit k = true → L k = true
  sync : ∀ k, k < ops.size → isE (atD ds k).o = true → k ≠ fl → (L k = true ↔ k < q)
  fl1 : fl < ops.size → fl < q → L fl = true
  fl2 : fl < ops.size → L fl = true → q ≤ fl → Pend ds fl w0 ι a w
  fro : FrOk ν ι mask nt (frOf ds fr0 (vq fl v q) L ops.size) a
/-- the one new map is known as soon as all are done that write ahead of it -/
def Settled (ops : Array Oper) (ds : List DOp) (fl : Nat) (L : Nat → Bool) (q : Nat) : Prop := fl < ops.size → L fl = true → q ≤ fl → ∃ k, k < fl ∧ isE (atD ds k).o = true ∧ L k = false

section
variable {ν : Nat → Int} {base : Nat} {W : World} {P : Program} {C : Cfg} {mask nt : Nat} {ops : Array Oper} {ds : List DOp} {fl : Nat} {rec : CallV} {ι0 : Inj} {w0 : World} {fr0 : Fr} {v : Nat → LV} {S : Nat → St}
theorem DOk.dst (D : DOk P mask nt ops ds fl) (hnt : nt ≤ 100000) : ∀ i t, (atD ds i).d = some t → t ≤ 100000 := by
  intro i t h
  rcases Nat.lt_or_ge i ops.size with hi | hi
  · obtain ⟨h1, h2, h3, h4⟩ := D.at_ i ops[i] (Array.getElem?_eq_getElem hi)
    rw [h2] at h
    rw [h] at h4
    simp only [keptD, Bool.and_eq_true, natBlt] at h4
    omega
  · have : atD ds i = default := by simp [atD, List.getD_eq_getElem?_getD, List.getElem?_eq_none (show ds.length ≤ i by rw [D.len]; exact hi)]
    rw [this] at h; cases h
theorem DOk.kept (D : DOk P mask nt ops ds fl) {i t : Nat} (hi : i < ops.size) (h : (atD ds i).d = some t) : t < nt ∧ Nat.testBit mask t = true := by
  obtain ⟨h1, h2, h3, h4⟩ := D.at_ i ops[i] (Array.getElem?_eq_getElem hi)
  rw [h2] at h
  rw [h] at h4
  simpa only [keptD, Bool.and_eq_true, natBlt] using h4
theorem isB_some {R : Type} {g : LV} {w : Bool} {k : Bool → Option R} {r : R} (h : isB g w k = some r) : ∃ b, (g = .bool (cond w b (!b)) ∨ (g = .tup [] ∧ b = false)) ∧ k b = some r := by
  unfold isB at h
  split at h
  · rename_i b; exact ⟨cond w b (!b), .inl (by cases w <;> cases b <;> rfl), h⟩
  · exact ⟨false, .inr ⟨rfl, rfl⟩, h⟩
  · cases h
theorem stepO_still {o : CO} {fr : Fr} {σ s : St} {x : LV} (he : isE o = false) (h : stepO C rec o fr σ = some (x, s)) : s = σ := by
  cases o with
  | fail => cases h
  | f e => cases he
  | p p =>
    simp only [stepO] at h
    split at h
    · cases h; rfl
    · cases h
theorem stepD_still {d : DOp} {fr : Fr} {σ s : St} {x : LV} (he : isE d.o = false) (h : stepD C rec d fr σ = some (x, s)) : s = σ := by
  unfold stepD at h
  split at h
  · exact stepO_still he h
  · obtain ⟨b, _, h⟩ := isB_some h
    cases b with
    | true => exact stepO_still he h
    | false => cases h; rfl
theorem TOk.stills (T : TOk C rec ops ds fr0 v S) {i j : Nat} (hij : i ≤ j) (hj : j ≤ ops.size) (h : ∀ k, i ≤ k → k < j → isE (atD ds k).o = false) : S j = S i := by
  induction j with
  | zero => have : i = 0 := by omega
            rw [this]
  | succ j ih =>
    by_cases e : i = j + 1
    · rw [e]
    · rw [stepD_still (h j (by omega) (by omega)) (T.text j (by omega))]
      exact ih (by omega) (by omega) fun k h1 h2 => h k h1 (by omega)
theorem cand_succ {q : Nat} : cand ds (q + 1) = isE (atD ds q).o := rfl

/-- settle -/
theorem DInv.settle (D : DOk P mask nt ops ds fl) (T : TOk C rec ops ds fr0 v S) (hnt : nt ≤ 100000) (hbase : base ≤ w0.heap.size) {L : Nat → Bool} {q : Nat} {ι : Inj} {a : Act} {w : World} (I : DInv ν base W mask nt ops ds fl ι0 w0 fr0 v S L q ι a w) :
    ∃ q' ι', DInv ν base W mask nt ops ds fl ι0 w0 fr0 v S L q' ι' a w ∧ Settled ops ds fl L q' := by
  by_cases hs : Settled ops ds fl L q
  · exact ⟨q, ι, I, hs⟩
  · unfold Settled at hs
    have hfl : fl < ops.size := Classical.byContradiction fun h => hs fun h1 => absurd h1 h
    have hL : L fl = true := by
      cases e : L fl with
      | true => rfl
      | false => exact absurd (fun _ h1 => by rw [e] at h1; cases h1) hs
    have hq : q ≤ fl := Classical.byContradiction fun h => hs fun _ _ h1 => absurd h1 h
    have hall : ∀ k, k < fl → isE (atD ds k).o = true → L k = true := by
      intro k hk he
      cases e : L k with
      | true => rfl
      | false => exact absurd (fun _ _ _ => ⟨k, hk, he, e⟩) hs
    obtain ⟨blk, b1, b2, b3, b4, b5⟩ := I.fl2 hfl hL hq
    have hSq : S fl = S q := T.stills hq (by omega) fun k h1 h2 => by
      cases e : isE (atD ds k).o with
      | false => rfl
      | true =>
        have := (I.sync k (by omega) e (by omega)).1 (hall k h2 e)
        omega
    obtain ⟨n1, n2⟩ := D.isNew hfl
    have ht := T.text fl hfl
    unfold stepD at ht
    rw [n2] at ht
    simp only [stepO, n1, runE] at ht
    unfold alloc at ht
    have ht : cond (Nat.ble (S fl).nx 500000000) (some (LV.map (S fl).nx, (⟨(S fl).hp.set (S fl).nx (some (.map [] 0)), Nat.succ (S fl).nx⟩ : St))) none = some (v fl, S (fl + 1)) := ht
    obtain ⟨c1, c2⟩ := cond_some ht
    have c1 := natBle.1 c1
    have e1 : v fl = .map (S fl).nx := (congrArg Prod.fst (Option.some.inj c2)).symm
    have e2 : S (fl + 1) = ⟨(S fl).hp.set (S fl).nx (some (.map [] 0)), (S fl).nx + 1⟩ := (congrArg Prod.snd (Option.some.inj c2)).symm
    have hrep := I.rep
    rw [← hSq] at hrep
    have hnone := hrep.unfresh
    refine ⟨fl + 1, ι.put (S fl).nx ⟨blk, 0, 0, 0⟩, ⟨I.step.adopt hnone b1, ?_, hfl, ?_, I.closed, ?_, fun _ _ => hL, fun _ _ h => by omega, ?_⟩, fun _ _ h => by omega⟩
    · rw [e2]; exact hrep.adopt (Nat.le_trans hbase b1) b2 b3 b4 c1
    · rw [cand_succ, n1]; rfl
    · intro k hk he hne
      constructor
      · intro h1; have := (I.sync k hk he hne).1 h1; omega
      · intro h1; exact hall k (by omega) he
    · have hle := Inj.le_put ⟨blk, 0, 0, 0⟩ hnone
      have F := I.fro.mono hle
      have hd := D.dst hnt
      have look : ∀ t x, (frOf ds fr0 (vq fl v (fl + 1)) L ops.size).get t = some x → (x = v fl ∧ (atD ds fl).d = some t) ∨ (frOf ds fr0 (vq fl v q) L ops.size).get t = some x := by
        intro t x hx
        rcases frOf_get (fr0 := fr0) (v := vq fl v (fl + 1)) (L := L) hd t ops.size with ⟨h1, h2⟩ | ⟨k, a1, a2, a3, a4, a5⟩
        · right
          rw [← hx]
          exact frOf_congr hd fun k hk hk2 => ⟨rfl, fun hk3 => absurd hk2 (h2 k hk hk3)⟩
        · rw [a4] at hx
          by_cases e : k = fl
          · subst e
            left
            refine ⟨?_, a3⟩
            cases hx
            show (if k = k ∧ k + 1 ≤ k then _ else _) = _
            rw [if_neg (by omega)]
          · right
            rw [frOf_last hd a1 a2 a3 a5, ← hx]
            simp only [vq]
            rw [if_neg (fun h => e h.1), if_neg (fun h => e h.1)]
      refine ⟨F.defers, F.size, ?_, ?_⟩
      · intro t x hx
        rcases look t x hx with ⟨h1, h2⟩ | h
        · rw [h1, e1, b5 t h2]
          simp only [VR]
          exact ⟨_, Inj.put_same .., rfl⟩
        · exact F.vals t x h
      · intro t x hx
        rcases look t x hx with ⟨h1, h2⟩ | h
        · exact (D.kept hfl h2).2
        · exact F.dom t x h

/-- the frame behind one more -/
theorem fro_put (D : DOk P mask nt ops ds fl) (hnt : nt ≤ 100000) {L : Nat → Bool} {q q' : Nat} {ι ι' : Inj} {a : Act} (hF : FrOk ν ι mask nt (frOf ds fr0 (vq fl v q) L ops.size) a) (hle : ι.le ι') (hclosed : ∀ i, i < ops.size → L i = true → ∀ k, (atD ds i).b.testBit k = true → L k = true)
    {i : Nat} (hi : i < ops.size) (hLi : L i = false) {o : Oper} (ho : ops[i]? = some o) {x : LV} {u : Value} (hx : VR ν ι' x u) (hxi : vq fl v q' i = x) (hqq : ∀ k, k < ops.size → L k = true → vq fl v q' k = vq fl v q k) :
    FrOk ν ι' mask nt (frOf ds fr0 (vq fl v q') (fun j => if j = i then true else L j) ops.size) (a.put o.dst u) := by
  have hd := D.dst hnt
  obtain ⟨_, h2, _, h4⟩ := D.at_ i o ho
  have F := (hF.mono hle).put hnt (dst := o.dst) (fun t e => (D.kept hi (by rw [h2]; exact e)).1) hx
  refine F.of_get fun t => ?_
  have hkeep : keepV (frOf ds fr0 (vq fl v q) L ops.size) x (keepIn mask o.dst) = setD (frOf ds fr0 (vq fl v q) L ops.size) x (atD ds i).d := by
    rw [h2]
    cases e : o.dst with
    | none => rfl
    | some t =>
      have := (D.kept hi (t := t) (by rw [h2]; exact e)).2
      simp only [keepIn, this, cond_true, setD]; rfl
  rw [hkeep, setD_get (hd i)]
  by_cases e : (atD ds i).d = some t
  · rw [if_pos e, ← hxi]
    refine frOf_last hd hi (by simp) e fun j h1 h2 h3 h4 => ?_
    rw [if_neg (by omega)] at h3
    have hc : clashD (atD ds i) (atD ds j) = true := by
      simp only [clashD, writesInto, e, h4, natBeq.2 rfl, Bool.or_true, Bool.true_or]
    have := hclosed j h2 h3 i (D.clash h2 h1 hc)
    rw [hLi] at this; cases this
  · rw [if_neg e]
    refine frOf_congr hd fun k hk hk2 => ?_
    have hne : k ≠ i := fun q => e (q ▸ hk2)
    refine ⟨by rw [if_neg hne], fun h => ?_⟩
    rw [if_neg hne] at h
    exact hqq k hk h
end
end Go.Eng
