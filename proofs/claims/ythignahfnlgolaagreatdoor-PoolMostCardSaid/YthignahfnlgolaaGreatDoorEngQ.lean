/- The keys of a map behind a pointer, listed in order by a function of the program: carried out by the symbolic executor at once, by the function's contract. Conditions: none. -/
import Derived.Test.YthignahfnlgolaaGreatDoorEngH
namespace Go.Eng
open Go.RowKit (Below)
noncomputable section
def insInt (x : Int) (l : List Int) : List Int := List.rec [x] (fun y r ih => cond (intLe x y) (x :: y :: r) (y :: ih)) l
def keysOf : List (LV × LV × Nat) → Option (List Int)
  | [] => some []
  | (.int .i64 n, _, _) :: r => (match keysOf r with | some l => some (insInt n l) | none => none)
  | _ => none
def ints (l : List Int) : List LV := List.rec [] (fun x _ ih => .int .i64 x :: ih) l
def strictL : List Int → Bool
  | [] => true
  | x :: r => (match r with | [] => true | y :: _ => !(intLe y x)) && strictL r
def wide64 : List Int → Bool
  | [] => true
  | x :: r => intLe (-9223372036854775808) x && intLe x 9223372036854775807 && wide64 r
def inN (x : Nat) : List Nat → Bool
  | [] => false
  | y :: r => Nat.beq x y || inN x r
def nodupN : List Nat → Bool
  | [] => true
  | x :: r => !(inN x r) && nodupN r
def allTo {R : Type} (σ : St) (k : K R) (o : Option (List Int)) : Option R := match o with
  | some [] => k .nilslice σ
  | some (x :: r) => cond (strictL (x :: r) && wide64 (x :: r) && Nat.ble (lenL (ints (x :: r))) 1000000) (newRow σ (ints (x :: r)) fun b σ => k (.slice 1 b 0 (lenL (ints (x :: r))) none) σ) none
  | none => none
def allAt {R : Type} (σ : St) (k : K R) (v : LV) : Option R := match v with
  | .map r => withMap σ r fun es _ => cond (nodupN (es.map fun e => e.2.2)) (allTo σ k (keysOf es)) none
  | _ => none
/-- d: in which cell behind the pointer the map lies -/
def allRun (d : Nat) {R : Type} (args : List LV) (σ : St) (k : K R) : Option R := match args with
  | [.ptr b o] => ld1 σ b (Nat.add o d) (allAt σ k)
  | _ => none
def primsOf (f d : Nat) (g : Nat) : Option Prim := cond (Nat.beq g f) (some ⟨fun args σ k => allRun d args σ k⟩) none
def isort (l : List Int) : List Int := l.foldr insInt []
end
/-- what the function is to do -/
def AllOk (P : Program) (f d : Nat) : Prop := ∀ (blk off b : Nat) (ms : Array MapEntry) (c : Nat) (keys : List Int) (w : World), w.cell? ⟨blk, off + d, none⟩ = some (.map (some b)) → w.heap[b]? = some (.map ms c) → ms.size ≤ 1000000 → MapKept.Stamped ms c →
  ms.toList.map (·.key) = keys.map (.int .i64) → (∀ k ∈ keys, -9223372036854775808 ≤ k ∧ k ≤ 9223372036854775807) → Calls P f #[.pointer (some ⟨blk, off, none⟩)] w fun e w' => ∃ v, e = .returned v ∧ Below w.heap.size w w' ∧
    ((keys = [] ∧ v = .slice none 0 0) ∨ keys ≠ [] ∧ ∃ g cap cur e, v = .slice (some ⟨g, 0, none⟩) keys.length cap ∧ w.heap.size ≤ g ∧ w'.heap[g]? = some (.cells cur e (0, 0)) ∧ keys.length ≤ cap ∧ cur.size = cap ∧ cur.toList.take keys.length = (isort keys).map (.int .i64))

theorem insInt_cons (x y : Int) (r : List Int) : insInt x (y :: r) = if x ≤ y then x :: y :: r else y :: insInt x r := by
  show cond (intLe x y) (x :: y :: r) (y :: insInt x r) = _
  cases e : intLe x y with
  | true => rw [intLe_iff] at e; rw [if_pos e]; rfl
  | false => rw [if_neg (fun q => by rw [intLe_iff.2 q] at e; cases e)]; rfl
theorem insInt_perm (x : Int) (l : List Int) : (insInt x l).Perm (x :: l) := by
  induction l with
  | nil => exact .refl _
  | cons y r ih =>
    rw [insInt_cons]
    split
    · exact .refl _
    · exact (ih.cons y).trans (.swap x y r)
theorem insInt_sorted (x : Int) (l : List Int) (h : l.Pairwise (· ≤ ·)) : (insInt x l).Pairwise (· ≤ ·) := by
  induction l with
  | nil => simp [insInt]
  | cons y r ih =>
    rw [insInt_cons]
    split
    · rename_i hxy
      refine List.pairwise_cons.2 ⟨?_, h⟩
      intro z hz
      cases hz with
      | head => exact hxy
      | tail _ hz => exact Int.le_trans hxy ((List.pairwise_cons.1 h).1 z hz)
    · rename_i hxy
      refine List.pairwise_cons.2 ⟨?_, ih (List.pairwise_cons.1 h).2⟩
      intro z hz
      have := (insInt_perm x r).mem_iff.1 hz
      cases this with
      | head => omega
      | tail _ hz => exact (List.pairwise_cons.1 h).1 z hz
theorem isort_perm (l : List Int) : (isort l).Perm l := by
  induction l with
  | nil => exact .refl _
  | cons x r ih => exact (insInt_perm x _).trans (ih.cons x)
theorem isort_sorted (l : List Int) : (isort l).Pairwise (· ≤ ·) := by
  induction l with
  | nil => exact .nil
  | cons x r ih => exact insInt_sorted x _ ih
theorem ints_eq (l : List Int) : ints l = l.map (.int .i64) := by
  induction l with
  | nil => rfl
  | cons x r ih => exact congrArg (LV.int .i64 x :: ·) ih
theorem strictL_pw : ∀ {l : List Int}, strictL l = true → l.Pairwise (· < ·)
  | [], _ => .nil
  | [x], _ => by simp
  | x :: y :: r, h => by
    simp only [strictL, Bool.and_eq_true] at h
    have ih := strictL_pw (l := y :: r) (by simp only [strictL, Bool.and_eq_true]; exact h.2)
    have hxy : x < y := by
      have h1 := h.1
      cases e : intLe y x with
      | true => rw [e] at h1; cases h1
      | false => exact Int.not_le.1 (fun q => by rw [intLe_iff.2 q] at e; cases e)
    refine List.pairwise_cons.2 ⟨?_, ih⟩
    intro z hz
    cases hz with
    | head => exact hxy
    | tail _ hz => exact Int.lt_trans hxy ((List.pairwise_cons.1 ih).1 z hz)
theorem wide64_ok : ∀ {l : List Int}, wide64 l = true → ∀ k ∈ l, -9223372036854775808 ≤ k ∧ k ≤ 9223372036854775807
  | [], _, k, hk => by cases hk
  | x :: r, h, k, hk => by
    simp only [wide64, Bool.and_eq_true, intLe_iff] at h
    cases hk with
    | head => exact h.1
    | tail _ hk => exact wide64_ok h.2 k hk
theorem inN_iff {x : Nat} : ∀ {l : List Nat}, x ∈ l → inN x l = true
  | y :: r, h => by
    simp only [inN, Bool.or_eq_true]
    cases h with
    | head => exact .inl (natBeq.2 rfl)
    | tail _ h => exact .inr (inN_iff h)
theorem nodupN_ok : ∀ {l : List Nat}, nodupN l = true → l.Nodup
  | [], _ => .nil
  | x :: r, h => by
    simp only [nodupN, Bool.and_eq_true, Bool.not_eq_true'] at h
    refine List.nodup_cons.2 ⟨fun hm => ?_, nodupN_ok h.2⟩
    rw [inN_iff hm] at h; cases h.1
theorem keysOf_ok : ∀ {es : List (LV × LV × Nat)} {l : List Int}, keysOf es = some l → ∃ keys, es.map (·.1) = keys.map (.int .i64) ∧ l = isort keys
  | [], l, h => by simp only [keysOf] at h; cases h; exact ⟨[], rfl, rfl⟩
  | (x, v, n) :: r, l, h => by
    unfold keysOf at h
    split at h
    · rename_i he; cases he
    · rename_i q n' v' b' r' he
      cases he
      split at h
      · rename_i l' hl'
        cases h
        obtain ⟨keys, h1, h2⟩ := keysOf_ok hl'
        exact ⟨n' :: keys, by simp [h1], by rw [h2]; rfl⟩
      · cases h
    · cases h
section
variable {ν : Nat → Int} {base : Nat} {W w w' : World} {σ : St} {ι : Inj} {P : Program}
theorem ERs.keys : ∀ {es : List (LV × LV × Nat)} {ms : List MapEntry} {keys : List Int}, ERs ν ι es ms → es.map (·.1) = keys.map (.int .i64) → ms.map (·.key) = keys.map (.int .i64) ∧ ms.map (·.born) = es.map (·.2.2)
  | [], ms, keys, h, hk => by
    have h : ms = [] := h
    subst h
    cases keys with
    | nil => exact ⟨rfl, rfl⟩
    | cons => cases hk
  | e :: r, ms, keys, h, hk => by
    obtain ⟨m, t, rfl, h1, h2, h3, h4⟩ := h
    cases keys with
    | nil => cases hk
    | cons x keys =>
      simp only [List.map_cons, List.cons.injEq] at hk
      obtain ⟨a1, a2⟩ := ERs.keys h4 hk.2
      rw [hk.1] at h1
      simp only [VR] at h1
      exact ⟨by simp [h1, a1], by simp [h3, a2]⟩
/-- an object that is known from now on -/
theorem Rep.take (H : Rep ν base W σ ι w) {o : LO} {B : Blk} (hlt : B.blk < w.heap.size) (ho : OR ν base w (ι.put σ.nx B) σ.nx o) (hno : ∀ b B', ι b = some B' → B'.blk ≠ B.blk) (hc : ∀ cs c s, o = .cells cs c s → c ≤ σ.nx) (hn : σ.nx ≤ 500000000) :
    Rep ν base W ⟨σ.hp.set σ.nx (some o), σ.nx + 1⟩ (ι.put σ.nx B) w := by
  have hle := Inj.le_put B H.unfresh
  have hg : ∀ j, (σ.hp.set σ.nx (some o)).get j = if j = σ.nx then some o else σ.hp.get j := fun j => Tr.get_set _ _ _ _ (by omega)
  refine ⟨H.below, H.hbase, ?_, ?_, ?_, ?_, ?_, ?_⟩
  · intro b o' h
    rw [hg] at h
    by_cases e : b = σ.nx
    · subst e; rw [if_pos rfl] at h; cases h; exact ho
    · rw [if_neg e] at h
      exact (H.obj b o' h).keep hle fun B' hB' => rfl
  · intro b B' h
    by_cases e : b = σ.nx
    · subst e; exact Nat.lt_succ_self _
    · rw [Inj.put_other _ _ e] at h; exact Nat.lt_succ_of_lt (H.fresh _ _ h)
  · intro b B' h
    by_cases e : b = σ.nx
    · subst e; rw [Inj.put_same] at h; cases h; exact hlt
    · rw [Inj.put_other _ _ e] at h; exact H.blk _ _ h
  · intro b cs c s h
    rw [hg] at h
    by_cases e : b = σ.nx
    · subst e; rw [if_pos rfl] at h; cases h; exact Nat.lt_succ_of_le (hc _ _ _ rfl)
    · rw [if_neg e] at h; exact Nat.lt_succ_of_lt (H.cls _ _ _ _ h)
  · intro b b' o1 o2 B1 B2 hne h1 h2 hB1 hB2 heq
    rw [hg] at h1 h2
    by_cases e : b = σ.nx
    · subst e
      have e' : b' ≠ σ.nx := fun q => hne q.symm
      rw [Inj.put_same] at hB1; cases hB1
      rw [Inj.put_other _ _ e'] at hB2
      exact absurd heq.symm (hno _ _ hB2)
    · by_cases e' : b' = σ.nx
      · subst e'
        rw [Inj.put_same] at hB2; cases hB2
        rw [Inj.put_other _ _ e] at hB1
        exact absurd heq (hno _ _ hB1)
      · rw [if_neg e] at h1; rw [if_neg e'] at h2
        rw [Inj.put_other _ _ e] at hB1; rw [Inj.put_other _ _ e'] at hB2
        exact H.apart _ _ _ _ _ _ hne h1 h2 hB1 hB2 heq
  · show σ.nx + 1 ≤ _; omega
theorem VRs_ints (ν : Nat → Int) (ι : Inj) (l : List Int) : VRs ν ι (ints l) (l.map (.int .i64)) := by
  induction l with
  | nil => exact VRs_nil
  | cons x r ih => exact VRs_cons VR_int ih
theorem allRun_ok {f d : Nat} (hall : AllOk P f d) (hfn : ∃ fn, P.funcs[f]? = some fn ∧ (fn.name == "runtime.NumGoroutine") = false ∧ fn.body.isNone = false) : PrimOk P ν base W f ⟨fun args σ k => allRun d args σ k⟩ := by
  intro R args σ k r ι w vs hk H hv
  refine ERes_of_calls ⟨hfn, ?_⟩
  change allRun d args σ k = some r at hk
  unfold allRun at hk
  split at hk
  · rename_i b o
    obtain ⟨B, y, u, hB, hk, hyu, _, hcell⟩ := ld1_ok H hk
    obtain ⟨p, hp⟩ : ∃ p, vs = #[p] ∧ VR ν ι (.ptr b o) p := by
      obtain ⟨p, t, e, h1, h2⟩ := hv
      have h2 : t = [] := h2
      subst h2
      exact ⟨p, by apply Array.ext'; simpa using e, h1⟩
    obtain ⟨rfl, hp⟩ := hp
    simp only [VR] at hp
    obtain ⟨B', hB', rfl⟩ := hp
    rw [hB] at hB'; cases hB'
    unfold allAt at hk
    split at hk
    · rename_i r0
      simp only [VR] at hyu
      obtain ⟨B1, hB1, rfl⟩ := hyu
      unfold withMap at hk
      split at hk
      · rename_i es c hes
        obtain ⟨B2, ms, hB2, hbase2, hms, hers, hborn⟩ := H.obj _ _ hes
        rw [hB1] at hB2; cases hB2
        obtain ⟨hnd, hk⟩ := cond_some hk
        have hnd := nodupN_ok hnd
        obtain ⟨l, hl⟩ : ∃ l, keysOf es = some l := by
          cases q : keysOf es with
          | none => rw [q] at hk; cases hk
          | some l => exact ⟨l, rfl⟩
        rw [hl] at hk
        obtain ⟨keys, k1, rfl⟩ := keysOf_ok hl
        obtain ⟨m1, m2⟩ := ERs.keys hers k1
        have hlen : ms.size = keys.length := by
          have := congrArg List.length m1; simpa using this
        have hperm := isort_perm keys
        have hcond : (∀ k ∈ keys, -9223372036854775808 ≤ k ∧ k ≤ 9223372036854775807) ∧ keys.Nodup ∧ keys.length ≤ 1000000 := by
          cases q : isort keys with
          | nil =>
            rw [q] at hperm
            have := hperm.symm.eq_nil
            subst this
            exact ⟨fun k hk => (by cases hk), List.nodup_nil, by simp⟩
          | cons x t =>
            rw [q] at hk hperm
            have hk : cond (strictL (x :: t) && wide64 (x :: t) && Nat.ble (lenL (ints (x :: t))) 1000000) (newRow σ (ints (x :: t)) fun b σ => k (.slice 1 b 0 (lenL (ints (x :: t))) none) σ) none = some r := hk
            obtain ⟨h1, _⟩ := cond_some hk
            simp only [Bool.and_eq_true, natBle, lenL_eq, ints_eq, List.length_map] at h1
            obtain ⟨⟨h1, h2⟩, h3⟩ := h1
            refine ⟨fun k hk => wide64_ok h2 k (hperm.mem_iff.2 hk), ?_, by rw [← hperm.length_eq]; exact h3⟩
            refine (hperm.nodup_iff).1 ?_
            exact (strictL_pw h1).imp (fun h e => by omega)
        obtain ⟨hw1, hw2, hw3⟩ := hcond
        have hst : MapKept.Stamped ms c := by
          refine ⟨?_, by rw [m2]; exact hnd, ?_⟩
          · intro x hx
            have : x.born ∈ es.map (·.2.2) := by rw [← m2]; exact List.mem_map_of_mem hx
            obtain ⟨e, he, hee⟩ := List.mem_map.1 this
            rw [← hee]; exact hborn e he
          · rw [m1]
            exact List.pairwise_map.2 (List.Pairwise.imp (fun {a b} (h : a ≠ b) (e : Value.int .i64 a = Value.int .i64 b) => h (by cases e; rfl)) hw2)
        refine (hall B.blk (B.base + o) B1.blk ms c keys w (by rw [Nat.add_assoc]; exact hcell) hms (by omega) hst m1 hw1).mono fun e w' he => ?_
        obtain ⟨v, rfl, hb, hv⟩ := he
        refine ⟨v, rfl, ?_⟩
        obtain ⟨H2, S2⟩ := H.kept hb
        rcases hv with ⟨rfl, rfl⟩ | ⟨hne, g, cap, cur, e, rfl, h1, h2, h3, h4, h5⟩
        · exact ⟨.nilslice, σ, ι, S2, H2, by simp only [VR], hk⟩
        · have hil : (isort keys).length = keys.length := hperm.length_eq
          cases q : isort keys with
          | nil =>
            rw [q] at hil
            exact absurd (List.eq_nil_of_length_eq_zero hil.symm) hne
          | cons x t =>
            rw [q] at hk h5 hil
            have hk : cond (strictL (x :: t) && wide64 (x :: t) && Nat.ble (lenL (ints (x :: t))) 1000000) (cond (Nat.ble σ.nx 500000000) (k (.slice 1 σ.nx 0 (lenL (ints (x :: t))) none) ⟨σ.hp.set σ.nx (some (.cells (ints (x :: t)) σ.nx 0)), σ.nx + 1⟩) none) none = some r := hk
            obtain ⟨_, hk⟩ := cond_some hk
            obtain ⟨hnx, hk⟩ := cond_some hk
            have hnx := natBle.1 hnx
            have hlen' : (ints (x :: t)).length = keys.length := by rw [ints_eq, List.length_map]; exact hil
            have hglt : g < w'.heap.size := (Array.getElem?_eq_some_iff.1 h2).1
            refine ⟨_, _, ι.put σ.nx ⟨g, 0, cap, keys.length⟩, S2.adopt H.unfresh h1, ?_, ?_, hk⟩
            · refine H2.take hglt ⟨_, cur, e, (0, 0), Inj.put_same .., h2, h4, hlen'.symm, by simpa using h3, ?_, ?_, .inr ⟨by omega, Nat.le_trans H.hbase h1, rfl⟩⟩ ?_ (fun cs c s hh => by cases hh; exact Nat.le_refl _) hnx
              · rw [List.drop_zero, hlen', h5]
                exact VRs_ints ν _ _
              · rw [atoms_iff, ints_eq]
                intro z hz
                obtain ⟨n, _, rfl⟩ := List.mem_map.1 hz
                rfl
              · intro b' B' hB' heq
                have := H.blk _ _ hB'
                simp only at heq
                omega
            · simp only [VR]
              refine ⟨⟨g, 0, cap, keys.length⟩, ⟨g, 0, none⟩, cap, Inj.put_same .., ?_, ?_, by omega, rfl, .inr rfl, by simp only [Nat.zero_add, Nat.mul_one]; exact h3, by simp⟩
              · rw [lenL_eq, hlen']
              · rw [lenL_eq, hlen']; exact h3
      · cases hk
    · cases hk
  · cases hk
end
end Go.Eng
