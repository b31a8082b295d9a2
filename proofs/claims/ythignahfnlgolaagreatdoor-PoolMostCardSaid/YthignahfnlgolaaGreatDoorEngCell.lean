/- The symbolic executor's rows of cells follow the model's: read, written, made. Conditions: none. -/
import Derived.Test.YthignahfnlgolaaGreatDoorEngMem
import Derived.Laws.CopyRow
import Derived.Laws.Cells
namespace Go.Eng
open Go.RowKit (Below)
section
variable {ν : Nat → Int} {base : Nat} {W w : World} {σ : St} {ι : Inj} {R : Type}

theorem cond_some {b : Bool} {x : Option R} {r : R} (h : cond b x none = some r) : b = true ∧ x = some r := by
  cases b with
  | true => exact ⟨rfl, h⟩
  | false => cases h
theorem oneCell_of {v : Value} (h : cellV v) : v.oneCell' = true := by
  cases v <;> first | rfl | exact h.elim
theorem VRs.one : ∀ {xs : List LV} {vs : List Value}, atoms xs = true → VRs ν ι xs vs → ∀ v ∈ vs, v.oneCell' = true
  | [], vs, _, h, v, hv => by rw [VRs_nil_iff] at h; subst h; cases hv
  | x :: r, [], _, h, _, _ => (VRs_not h).elim
  | x :: r, u :: t, ha, h, v, hv => by
    rw [VRs_cons_iff] at h
    simp only [atoms, Bool.and_eq_true] at ha
    cases hv with
    | head => exact oneCell_of (h.1.cellV ha.1)
    | tail _ hv => exact VRs.one ha.2 h.2 v hv

/-! ## rows that are made -/
theorem alloc_ok (h : Rep ν base W σ ι w) {o : LO} {k : Nat → St → Option R} {r : R} (hk : Go.Eng.alloc σ o k = some r)
    (obj : Obj) (B : Blk) (hB : B.blk = w.heap.size) (ho : OR ν base (w.alloc obj) (ι.put σ.nx B) σ.nx o) (hc : ∀ cs c s, o = .cells cs c s → c ≤ σ.nx) :
    ∃ σ', k σ.nx σ' = some r ∧ Rep ν base W σ' (ι.put σ.nx B) (w.alloc obj) ∧ Step ι w (ι.put σ.nx B) (w.alloc obj) := by
  obtain ⟨hp, nx⟩ := σ
  have hk' : cond (Nat.ble nx 500000000) (k nx ⟨hp.set nx (some o), Nat.succ nx⟩) none = some r := hk
  obtain ⟨h1, h2⟩ := cond_some hk'
  have := h.alloc obj o B hB ho hc (natBle.1 h1)
  exact ⟨_, h2, this.1, this.2⟩
theorem newRow_ok (h : Rep ν base W σ ι w) {cs : List LV} {k : Nat → St → Option R} {r : R} (hk : newRow σ cs k = some r) (ha : atoms cs = true)
    (arr : Array Value) (e : TypeId) (hl : cs.length ≤ arr.size) (hv : VRs ν ι cs (arr.toList.take cs.length)) :
    ∃ σ', k σ.nx σ' = some r ∧ Rep ν base W σ' (ι.put σ.nx ⟨w.heap.size, 0, arr.size, cs.length⟩) (w.alloc (.cells arr e)) ∧
      Step ι w (ι.put σ.nx ⟨w.heap.size, 0, arr.size, cs.length⟩) (w.alloc (.cells arr e)) := by
  refine alloc_ok h hk _ _ rfl ?_ (fun cs' c s e => by cases e; exact Nat.le_refl _)
  refine ⟨_, arr, e, (0, 0), Inj.put_same .., ?_, rfl, rfl, by simpa using hl, ?_, ha, .inr ⟨Nat.zero_le _, h.hbase, rfl⟩⟩
  · show (w.heap.push _)[w.heap.size]? = _
    simp
  · exact VRs.mono (Inj.le_put _ h.unfresh) _ _ (by simpa using hv)

/-- a row with a class and a mark -/
noncomputable def newRowC (σ : St) (cs : List LV) (cl st : Nat) (k : Nat → St → Option R) : Option R := Go.Eng.alloc σ (.cells cs cl st) k
theorem newRowC_ok (h : Rep ν base W σ ι w) {cs : List LV} {cl st : Nat} {k : Nat → St → Option R} {r : R} (hk : newRowC σ cs cl st k = some r) (ha : atoms cs = true) (hcl : cl ≤ σ.nx)
    (arr : Array Value) (e : TypeId) (hl : cs.length ≤ arr.size) (hv : VRs ν ι cs (arr.toList.take cs.length)) (hst : st ≤ 2 := by omega) :
    ∃ σ', k σ.nx σ' = some r ∧ Rep ν base W σ' (ι.put σ.nx ⟨w.heap.size, 0, arr.size, cs.length⟩) (w.alloc (.cells arr e)) ∧
      Step ι w (ι.put σ.nx ⟨w.heap.size, 0, arr.size, cs.length⟩) (w.alloc (.cells arr e)) := by
  refine alloc_ok h hk _ _ rfl ?_ (fun cs' c s e => by cases e; exact hcl)
  refine ⟨_, arr, e, (0, 0), Inj.put_same .., ?_, rfl, rfl, by simpa using hl, ?_, ha, .inr ⟨hst, h.hbase, rfl⟩⟩
  · show (w.heap.push _)[w.heap.size]? = _
    simp
  · exact VRs.mono (Inj.le_put _ h.unfresh) _ _ (by simpa using hv)

/-! ## rows that are read -/
theorem withCells_ok (h : Rep ν base W σ ι w) {b : Nat} {k : List LV → Nat → Nat → Option R} {r : R} (hk : withCells σ b k = some r) :
    ∃ cs c s, σ.hp.get b = some (.cells cs c s) ∧ k cs c s = some r := by
  unfold withCells at hk
  split at hk
  · rename_i cs c s e; exact ⟨cs, c, s, e, hk⟩
  · cases hk
theorem VRs.seg {xs : List LV} {l : List Value} {base o n m : Nat} (h : VRs ν ι xs ((l.drop base).take m)) (hm : m = xs.length) (ho : o + n ≤ xs.length) :
    VRs ν ι ((xs.drop o).take n) ((l.drop (base + o)).take n) := by
  have := (h.drop o).take n
  rwa [List.drop_take, List.drop_drop, List.take_take, show min n (m - o) = n by omega] at this
/-- known cells are there -/
theorem cells_read {xs : List LV} {arr : Array Value} {e : TypeId} {fz : Nat × Nat} {g p n : Nat} (hg : w.heap[g]? = some (.cells arr e fz)) (hn : xs.length = n)
    (hv : VRs ν ι xs ((arr.toList.drop p).take n)) : ∀ j v, ((arr.toList.drop p).take n)[j]? = some v → w.cell? ((⟨g, p, none⟩ : Addr).add j) = some v := by
  intro j v hj
  have hadd : (⟨g, p, none⟩ : Addr).add j = ⟨g, p + j, none⟩ := by unfold Addr.add; split <;> simp_all
  rw [hadd]
  simp only [World.cell?, hg]
  rw [List.getElem?_take] at hj
  split at hj
  · rw [List.getElem?_drop] at hj
    simpa using hj
  · cases hj
theorem ldCells_ok {P : Program} (h : Rep ν base W σ ι w) {b o n : Nat} {k : List LV → Option R} {r : R} (hk : ldCells σ b o n k = some r) :
    ∃ B cs us, ι b = some B ∧ k cs = some r ∧ VRs ν ι cs us ∧ atoms cs = true ∧ us.length = n ∧ (loadCells ⟨B.blk, B.base + o, none⟩ n).run P w = .ok us.toArray w ∧
      ∀ w' : World, w'.heap = w.heap → (loadCells ⟨B.blk, B.base + o, none⟩ n).run P w' = .ok us.toArray w' := by
  obtain ⟨cs, c, s, hb, hk⟩ := withCells_ok h hk
  obtain ⟨h1, hk⟩ := cond_some hk
  rw [natBle, lenL_eq] at h1
  have h1 : o + n ≤ cs.length := h1
  rw [takeN_eq, dropN_eq] at hk
  obtain ⟨B, arr, e, fz, hB, hg, hs, hm, hn, hv, ha, _⟩ := h.obj _ _ hb
  have hseg := hv.seg rfl h1
  have hl : ((arr.toList.drop (B.base + o)).take n).length = n := by rw [← hseg.length]; simp; omega
  have hxl : ((cs.drop o).take n).length = n := by simp; omega
  have main : ∀ w' : World, w'.heap = w.heap → (loadCells ⟨B.blk, B.base + o, none⟩ n).run P w' = .ok ((arr.toList.drop (B.base + o)).take n).toArray w' := by
    intro w' hw'
    have := run_loadCells_list (P := P) w' ⟨B.blk, B.base + o, none⟩ _ (cells_read (w := w') (by rw [hw']; exact hg) hxl hseg)
    rwa [hl] at this
  exact ⟨B, _, _, hB, hk, hseg, atoms_take _ (atoms_drop _ ha), hl, main w rfl, main⟩
theorem ld1_ok (h : Rep ν base W σ ι w) {b o : Nat} {k : LV → Option R} {r : R} (hk : ld1 σ b o k = some r) :
    ∃ B x u, ι b = some B ∧ k x = some r ∧ VR ν ι x u ∧ atom x = true ∧ w.cell? ⟨B.blk, B.base + o, none⟩ = some u := by
  obtain ⟨cs, c, s, hb, hk⟩ := withCells_ok h hk
  obtain ⟨h1, hk⟩ := cond_some hk
  rw [natBlt, lenL_eq] at h1
  obtain ⟨B, arr, e, fz, hB, hg, hs, hm, hn, hv, ha, _⟩ := h.obj _ _ hb
  rw [nth_lt h1] at hk
  obtain ⟨u, hu, hvu⟩ := hv.get o h1
  refine ⟨B, _, u, hB, hk, hvu, (atoms_iff _).1 ha _ (List.getElem_mem h1), ?_⟩
  rw [List.getElem?_take, if_pos h1, List.getElem?_drop] at hu
  simp only [World.cell?, hg]
  simpa using hu

/-! ## rows that are written -/
theorem Chg.setRow {g : Nat} {arr cs : Array Value} {e : TypeId} {fz : Nat × Nat} (hg : w.heap[g]? = some (.cells arr e fz)) : Chg w (w.setRow g cs) g (.cells cs e fz) :=
  ⟨rfl, rfl, rfl, by simp, setRow_heap w g arr cs e fz hg, fun k hk => setRow_other w g k cs hk⟩
/-- what a row holds behind a write -/
def wrote (l : List Value) (p : Nat) (us : List Value) : List Value := l.take p ++ us ++ l.drop (p + us.length)
theorem wrote_length {l us : List Value} {p : Nat} (h : p + us.length ≤ l.length) : (wrote l p us).length = l.length := by
  simp [wrote]; omega
theorem wrote_seg {l us : List Value} {base o m : Nat} (h : base + o + us.length ≤ l.length) (ho : o + us.length ≤ m) :
    ((wrote l (base + o) us).drop base).take m = (((l.drop base).take m).take o ++ us ++ ((l.drop base).take m).drop (o + us.length)) := by
  apply List.ext_getElem?
  intro j
  simp only [wrote, List.getElem?_take, List.getElem?_drop, List.getElem?_append, List.length_append, List.length_take, List.length_drop]
  by_cases h1 : j < o
  · simp only [show base + j < min (base + o) l.length + us.length by omega, show base + j < min (base + o) l.length by omega, show j < m by omega, if_true,
      show j < min o (min m (l.length - base)) + us.length by omega, show j < min o (min m (l.length - base)) by omega, show base + j < base + o by omega, h1]
  · by_cases h2 : j < o + us.length
    · simp only [show base + j < min (base + o) l.length + us.length by omega, show ¬ base + j < min (base + o) l.length by omega, show j < m by omega, if_true, if_false,
        show j < min o (min m (l.length - base)) + us.length by omega, show ¬ j < min o (min m (l.length - base)) by omega]
      congr 1; omega
    · simp only [show ¬ base + j < min (base + o) l.length + us.length by omega, show ¬ j < min o (min m (l.length - base)) + us.length by omega, if_false]
      by_cases h3 : j < m
      · simp only [h3, if_true, show o + us.length + (j - (min o (min m (l.length - base)) + us.length)) < m by omega]
        congr 1; omega
      · simp only [h3, if_false, show ¬ o + us.length + (j - (min o (min m (l.length - base)) + us.length)) < m by omega]
theorem VRs.put {xs vs : List LV} {l us : List Value} {base o : Nat} (h : VRs ν ι xs ((l.drop base).take xs.length)) (hv : VRs ν ι vs us)
    (hl : base + xs.length ≤ l.length) (ho : o + vs.length ≤ xs.length) : VRs ν ι (putL vs o xs) (((wrote l (base + o) us).drop base).take xs.length) := by
  have hlen := hv.length
  rw [putL_eq _ _ _ (by omega), wrote_seg (by omega) (by omega), ← hlen]
  exact ((h.take o).append hv).append (h.drop (o + vs.length))
theorem putL_length {xs vs : List LV} {o : Nat} (h : o + vs.length ≤ xs.length) : (putL vs o xs).length = xs.length := by
  rw [putL_eq _ _ _ (by omega)]; simp; omega
theorem putL_atoms {xs vs : List LV} {o : Nat} (h : o + vs.length ≤ xs.length) (ha : atoms xs = true) (hb : atoms vs = true) : atoms (putL vs o xs) = true := by
  rw [putL_eq _ _ _ (by omega)]; exact atoms_append (atoms_append (atoms_take _ ha) hb) (atoms_drop _ ha)

theorem alone_of (h : Rep ν base W σ ι w) {b : Nat} {B : Blk} {cs : List LV} {c s : Nat} (hb : σ.hp.get b = some (.cells cs c s)) (hB : ι b = some B) (hs : s = 0) :
    ∀ b' o' B', b' ≠ b → σ.hp.get b' = some o' → ι b' = some B' → B'.blk ≠ B.blk := by
  intro b' o' B' hne hb' hB' heq
  have := h.apart b b' _ _ B B' (Ne.symm hne) hb hb' hB hB' heq.symm
  cases o' with
  | cells cs' c' s' => rcases this with ⟨h1, _⟩ | ⟨_, h1, _⟩ <;> omega
  | map => exact this.elim
  | mit => exact this.elim
theorem alone_forget (h : Rep ν base W σ ι w) {b : Nat} {B : Blk} {cs : List LV} {c s : Nat} (hb : σ.hp.get b = some (.cells cs c s)) (hB : ι b = some B) (hs : s ≤ 2) :
    ∀ b' o' B', b' ≠ b → (forget σ.hp c b).get b' = some o' → ι b' = some B' → B'.blk ≠ B.blk := by
  intro b' o' B' hne hb' hB' heq
  have hb1 := forget_less _ _ _ _ _ hb'
  have := h.apart b b' _ _ B B' (Ne.symm hne) hb hb1 hB hB' heq.symm
  cases o' with
  | cells cs' c' s' =>
    rcases this with ⟨h1, _⟩ | ⟨h1, _⟩
    · omega
    · rw [forget_get, hb1] at hb'
      simp only [Option.bind_some] at hb'
      split at hb'
      · rename_i ho; exact hne ((others_spec _ _ _ _).1 ho _ _ _ rfl h1.symm)
      · cases hb'
  | map => exact this.elim
  | mit => exact this.elim
/-- the state in which an object has been made sole -/
theorem stCells_ok {P : Program} (h : Rep ν base W σ ι w) {b o : Nat} {vs : List LV} {us : List Value} {k : St → Option R} {r : R} (hk : stCells σ b o vs k = some r)
    (ha : atoms vs = true) (hv : VRs ν ι vs us) :
    ∃ B σ' w', ι b = some B ∧ k σ' = some r ∧ (storeCells ⟨B.blk, B.base + o, none⟩ us).run P w = .ok () w' ∧ Rep ν base W σ' ι w' ∧ Step ι w ι w' := by
  obtain ⟨cs, c, s, hb, hk⟩ := withCells_ok h hk
  obtain ⟨h1, hk⟩ := cond_some hk
  rw [natBle, lenL_eq, lenL_eq] at h1
  have h1 : o + vs.length ≤ cs.length := h1
  obtain ⟨B, arr, e, fz, hB, hg, hs, hm, hn, hvs, hat, hst⟩ := h.obj _ _ hb
  have hlen := hv.length
  have main : s ≤ 2 → ∀ hp : Tr LO, (∀ b o, hp.get b = some o → σ.hp.get b = some o) →
      (∀ b' o' B', b' ≠ b → hp.get b' = some o' → ι b' = some B' → B'.blk ≠ B.blk) → k ⟨hp.set b (some (.cells (putL vs o cs) c 0)), σ.nx⟩ = some r →
      ∃ B σ' w', ι b = some B ∧ k σ' = some r ∧ (storeCells ⟨B.blk, B.base + o, none⟩ us).run P w = .ok () w' ∧ Rep ν base W σ' ι w' ∧ Step ι w ι w' := by
    intro hs2 hp hless hal hk
    obtain ⟨_, hbase, hfz⟩ : s ≤ 2 ∧ base ≤ B.blk ∧ fz = (0, 0) := hst.resolve_left (by omega)
    subst hfz
    have hone := VRs.one ha hv
    have hrun := run_storeCells_at P B.blk (B.base + o) e us 0 arr w hg (by simp only [Nat.add_zero]; omega) hone
    have hchg : Chg w (w.setRow B.blk (wrote arr.toList (B.base + o) us).toArray) B.blk (.cells (wrote arr.toList (B.base + o) us).toArray e (0, 0)) := .setRow hg
    have hcl := h.cls _ _ _ _ hb
    have := (h.less hp hless).change (o := .cells (putL vs o cs) c 0) hB hbase hal hchg
      ⟨B, _, e, (0, 0), hB, hchg.at_, by simp only [List.size_toArray]; rw [wrote_length (by simp; omega)]; simpa using hs, by rw [putL_length h1]; exact hm, by omega,
        by rw [putL_length h1]; simpa using hvs.put hv (by simp; omega) (by omega), putL_atoms h1 hat ha, .inr ⟨Nat.zero_le _, hbase, rfl⟩⟩
      (fun cs' c' s' e => by cases e; exact hcl)
    exact ⟨B, _, _, hB, hk, by simpa [wrote] using hrun, this.1, this.2⟩
  cases e0 : Nat.beq s 0 with
  | true =>
    rw [e0, cond_true] at hk
    have e0 := natBeq.1 e0
    exact main (by omega) σ.hp (fun _ _ h => h) (alone_of h hb hB e0) hk
  | false =>
    rw [e0, cond_false] at hk
    obtain ⟨e2, hk⟩ := cond_some hk
    have e2 := natBle.1 e2
    exact main e2 (forget σ.hp c b) (forget_less _ _ _) (alone_forget h hb hB e2) hk
end
end Go.Eng
