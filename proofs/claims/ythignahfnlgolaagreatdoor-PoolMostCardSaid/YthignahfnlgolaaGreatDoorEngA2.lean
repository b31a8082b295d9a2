/- The symbolic executor's append follows the model's, in all its cases. Conditions: none. -/
import Derived.Test.YthignahfnlgolaaGreatDoorEngA
namespace Go.Eng
section
variable {ν : Nat → Int} {base : Nat} {W w : World} {σ : St} {ι : Inj} {R : Type} {P : Program} {C : Cfg}

/-- how the model appends -/
structure AR (P : Program) (w : World) (ats : Array TypeId) (ty e : TypeId) (xv : Value) (n : Nat) (us : List Value) (z : Value) : Prop where
  len : us.length = n * sizeOf P e
  zlen : z.cells.size = sizeOf P e
  fit : ∀ (ba : Option Addr) (len cap : Nat) (w' : World), len + n ≤ cap → (∀ a, ba = some a → (storeCells (a.add (len * sizeOf P e)) us).run P w = .ok () w') → (ba = none → w' = w) →
    (Builtin.append_ ats ty #[.slice ba len cap, xv]).run P w = .ok (.slice ba (len + n) cap) w'
  grow : ∀ (ba : Option Addr) (len cap : Nat) (os : List Value), cap < len + n → len + n ≤ 1048576 → (Builtin.firstCells (sizeOf P e) len (.slice ba len cap)).run P w.drew = .ok os.toArray w.drew →
    ∃ c, len + n ≤ c ∧ (Builtin.append_ ats ty #[.slice ba len cap, xv]).run P w = .ok (.slice (some ⟨w.heap.size, 0, none⟩) (len + n) c) (w.drew.alloc (.cells (os.toArray ++ us.toArray ++ Builtin.zeroCells z.cells (c - (len + n))) e))
theorem zeroCells_size (z : Array Value) (n : Nat) : (Builtin.zeroCells z n).size = n * z.size := by simp [Builtin.zeroCells]
theorem take_both {os us : List Value} {rest : Array Value} {m : Nat} (h : m = os.length + us.length) : ((os.toArray ++ us.toArray ++ rest).toList.take m) = os ++ us := by
  have e : (os.toArray ++ us.toArray ++ rest).toList = (os ++ us) ++ rest.toList := by simp
  rw [e, List.take_left' (by rw [List.length_append]; exact h.symm)]
/-- a new block of what a slice held and what is appended -/
theorem grown_ok (H : Rep ν base W σ ι w) {ats : Array TypeId} {ty e : TypeId} {xv : Value} {n : Nat} {us : List Value} {z : Value} (A : AR P w ats ty e xv n us z) (hz : sizeOf P e ≠ 0) {ba : Option Addr} {len cap : Nat} {os : List Value}
    (h1 : cap < len + n) (h2 : len + n ≤ 1048576) (hold : (Builtin.firstCells (sizeOf P e) len (.slice ba len cap)).run P w.drew = .ok os.toArray w.drew) (hol : os.length = len * sizeOf P e) {ol new : List LV}
    (ho : VRs ν ι ol os) (hoa : atoms ol = true) (hn : VRs ν ι new us) (hna : atoms new = true) {k : K R} {r : R}
    (hk : newRow σ (ol ++ new) (fun b σ => k (.slice (sizeOf P e) b 0 (len + n) none) σ) = some r) : VGood P ν base W ι w (Builtin.append_ ats ty #[.slice ba len cap, xv]) k r := by
  obtain ⟨c, hc, hrun⟩ := A.grow ba len cap os h1 h2 hold
  have hl1 := ho.length
  have hl2 := hn.length
  have hA := A.len
  have hsz : (os.toArray ++ us.toArray ++ Builtin.zeroCells z.cells (c - (len + n))).size = c * sizeOf P e := by
    simp only [Array.size_append, List.size_toArray, zeroCells_size, A.zlen, hol, hA]
    rw [← Nat.add_mul, ← Nat.add_mul]
    congr 1; omega
  have hle : (len + n) * sizeOf P e ≤ c * sizeOf P e := Nat.mul_le_mul_right _ hc
  have hm : (ol ++ new).length = (len + n) * sizeOf P e := by rw [List.length_append, hl1, hl2, hol, hA, Nat.add_mul]
  obtain ⟨σ', q1, q2, q3⟩ := newRow_ok H.drew hk (atoms_append hoa hna) (os.toArray ++ us.toArray ++ Builtin.zeroCells z.cells (c - (len + n))) e (by rw [hsz, hm]; exact hle)
    (by rw [take_both (by rw [List.length_append, hl1, hl2])]; exact ho.append hn)
  refine ⟨_, _, hrun, _, σ', _, (Step.drew ι w).trans q3, q2, ?_, q1⟩
  simp only [VR]
  refine ⟨_, _, c, Inj.put_same .., rfl, hc, by omega, rfl, .inr rfl, ?_, ?_⟩
  · show (ol ++ new).length ≤ _; rw [hm]; omega
  · show 0 + 0 + c * sizeOf P e ≤ (os.toArray ++ us.toArray ++ Builtin.zeroCells z.cells (c - (len + n))).size; omega
/-- what a slice holds, read for an append -/
theorem old_ok (H : Rep ν base W σ ι w) {b o len cc : Nat} {B : Blk} {a : Addr} {cs : List LV} {cl st s : Nat} (hb : σ.hp.get b = some (.cells cs cl st)) (hB : ι b = some B) (ha : cc = 0 ∨ a = ⟨B.blk, B.base + o, none⟩) (hlc : len ≤ cc)
    (hle : o + len * s ≤ cs.length) : ∃ os, VRs ν ι (takeN (Nat.mul len s) (dropN o cs)) os ∧ atoms (takeN (Nat.mul len s) (dropN o cs)) = true ∧ os.length = len * s ∧
      ∀ w', w'.heap = w.heap → (Builtin.firstCells s len (.slice (some a) len cc)).run P w' = .ok os.toArray w' := by
  have hk : ldCells σ b o (len * s) (fun l => some l) = some (takeN (len * s) (dropN o cs)) := by
    unfold ldCells withCells
    rw [hb]
    simp only
    rw [show Nat.ble (Nat.add o (len * s)) (lenL cs) = true from natBle.2 (by rw [lenL_eq]; exact hle)]
    rfl
  obtain ⟨B', cs', us, hB', hk', hv, hat, hl, _, hr⟩ := ldCells_ok (P := P) H hk
  rw [hB] at hB'; cases hB'
  cases hk'
  refine ⟨us, hv, hat, hl, fun w' hw' => ?_⟩
  rcases ha with h | rfl
  · have : len = 0 := by omega
    subst this
    have : us = [] := by simpa using hl
    subst this
    simp [Builtin.firstCells, loadCells, loadCellsFrom]
  · exact hr w' hw'
/-- cells that lie ahead of what was written are as they were -/
theorem wrote_ahead {l us : List Value} {p b m : Nat} (h : b + m ≤ p) (hl : p + us.length ≤ l.length) : ((wrote l p us).drop b).take m = (l.drop b).take m := by
  apply List.ext_getElem?
  intro j
  simp only [wrote, List.getElem?_take, List.getElem?_drop, List.getElem?_append, List.length_append, List.length_take]
  by_cases hj : j < m
  · simp only [hj, if_true, show b + j < min p l.length + us.length by omega, show b + j < min p l.length by omega, show b + j < p by omega]
  · simp only [hj, if_false]
/-- the block is new, or it is the old one, whose known cells end where the slice does -/
theorem maybe_ok (H : Rep ν base W σ ι w) {ats : Array TypeId} {ty e : TypeId} {xv : Value} {n : Nat} {us : List Value} {z : Value} (A : AR P w ats ty e xv n us z) (hz : sizeOf P e ≠ 0)
    {b o len cc cl s1 : Nat} {B : Blk} {a : Addr} {cs : List LV} (hb : σ.hp.get b = some (.cells cs cl s1)) (hs : s1 ≤ 2) (hB : ι b = some B) (ha : cc = 0 ∨ a = ⟨B.blk, B.base + o, none⟩) (hlc : len ≤ cc)
    (hcap : B.m ≤ o + cc * sizeOf P e ∧ B.base + o + cc * sizeOf P e ≤ B.n) (hend : o + len * sizeOf P e = cs.length) (h2 : len + n ≤ 1048576) (hpos : 0 < len + n)
    (hoth : ∀ b' o' B', b' ≠ b → σ.hp.get b' = some o' → ι b' = some B' → B'.blk = B.blk → ∃ cs', o' = .cells cs' cl 2 ∧ B'.base + B'.m ≤ B.base + B.m)
    {new : List LV} (hn : VRs ν ι new us) (hna : atoms new = true) {k : K R} {r : R}
    (hk : maybeTo σ (sizeOf P e) b o len n cl cs new k = some r) : VGood P ν base W ι w (Builtin.append_ ats ty #[.slice (some a) len cc, xv]) k r := by
  obtain ⟨os, ho, hoa, hol, hor⟩ := old_ok (P := P) (s := sizeOf P e) H hb hB ha hlc (by omega)
  have hA := A.len
  have hl2 := hn.length
  have hl1 := ho.length
  have hlt := H.fresh _ _ hB
  have hnx := H.nx
  have H2 := H.mark2 hb hs (by omega)
  have hcl := H.cls _ _ _ _ hb
  unfold maybeTo at hk
  rw [app_eq] at hk
  have hm : (takeN (Nat.mul len (sizeOf P e)) (dropN o cs) ++ new).length = (len + n) * sizeOf P e := by rw [List.length_append, hl1, hl2, hol, hA, Nat.add_mul]
  by_cases hfit : len + n ≤ cc
  · -- in place
    have haa := ha.resolve_left (by omega)
    subst haa
    obtain ⟨B', arr, et, fz, hB', hg, hsz, hBm, hBn, hv, hat, hst⟩ := H.obj _ _ hb
    rw [hB] at hB'; cases hB'
    obtain ⟨_, hbase, hfz⟩ := hst.resolve_left (by omega)
    subst hfz
    have hneed : (len + n) * sizeOf P e ≤ cc * sizeOf P e := Nat.mul_le_mul_right _ hfit
    rw [Nat.add_mul] at hneed
    have hroom : B.base + (o + len * sizeOf P e) + us.length ≤ arr.size := by rw [hsz, hA]; omega
    have hone := VRs.one hna hn
    have hrun := run_storeCells_at P B.blk (B.base + (o + len * sizeOf P e)) et us 0 arr w hg (by simpa using hroom) hone
    have hchg : Chg w (w.setRow B.blk (wrote arr.toList (B.base + (o + len * sizeOf P e)) us).toArray) B.blk (.cells (wrote arr.toList (B.base + (o + len * sizeOf P e)) us).toArray et (0, 0)) := .setRow hg
    have hwl : (wrote arr.toList (B.base + (o + len * sizeOf P e)) us).length = B.n := by rw [wrote_length (by simpa using hroom)]; simpa using hsz
    have hmodel := A.fit (some ⟨B.blk, B.base + o, none⟩) len cc _ hfit (fun a' he => by
      cases he
      rw [Addr.add_lit, Nat.add_assoc]
      simp only [Nat.add_zero] at hrun
      exact hrun) (fun he => by cases he)
    obtain ⟨hp, nx⟩ := σ
    have hk' : cond (Nat.ble nx 500000000) (k (.slice (sizeOf P e) nx 0 (Nat.add len n) none) ⟨(hp.set b (some (.cells cs cl 2))).set nx (some (.cells (takeN (Nat.mul len (sizeOf P e)) (dropN o cs) ++ new) cl 1)), Nat.succ nx⟩) none = some r := hk
    obtain ⟨hnx2, hk'⟩ := cond_some hk'
    have hown : OR ν base (w.setRow B.blk (wrote arr.toList (B.base + (o + len * sizeOf P e)) us).toArray) (ι.put nx ⟨B.blk, B.base + o, B.n, (len + n) * sizeOf P e⟩) nx (.cells (takeN (Nat.mul len (sizeOf P e)) (dropN o cs) ++ new) cl 1) := by
      refine ⟨_, _, et, (0, 0), Inj.put_same .., hchg.at_, by simpa using hwl, hm.symm, ?_, ?_, atoms_append hoa hna, .inr ⟨by omega, hbase, rfl⟩⟩
      · show B.base + o + (len + n) * sizeOf P e ≤ B.n
        rw [Nat.add_mul]; omega
      · refine VRs.mono (Inj.le_put _ H.unfresh) _ _ ?_
        rw [hm]
        show VRs ν ι _ (((wrote arr.toList (B.base + (o + len * sizeOf P e)) us).toArray.toList.drop (B.base + o)).take _)
        have hseg := hv.seg (o := o) (n := len * sizeOf P e) rfl (by omega)
        rw [takeN_eq, dropN_eq]
        have hw : ((wrote arr.toList (B.base + (o + len * sizeOf P e)) us).drop (B.base + o)).take ((len + n) * sizeOf P e) = (arr.toList.drop (B.base + o)).take (len * sizeOf P e) ++ us := by
          rw [← Nat.add_assoc]
          rw [wrote_seg (by rw [Nat.add_assoc B.base]; simpa using hroom) (by rw [hA, Nat.add_mul]; omega)]
          rw [List.take_take, show min (len * sizeOf P e) ((len + n) * sizeOf P e) = len * sizeOf P e by rw [Nat.add_mul]; omega]
          have hnil : (((arr.toList.drop (B.base + o)).take ((len + n) * sizeOf P e)).drop (len * sizeOf P e + us.length)) = [] := by
            apply List.drop_eq_nil_of_le
            have := List.length_take_le ((len + n) * sizeOf P e) (arr.toList.drop (B.base + o))
            have h5 : (len + n) * sizeOf P e = len * sizeOf P e + n * sizeOf P e := Nat.add_mul ..
            omega
          rw [hnil, List.append_nil]
        simp only
        rw [hw]
        exact hseg.append hn
    have hin := H2.inplace (B := ⟨B.blk, B.base + o, B.n, (len + n) * sizeOf P e⟩) (o := .cells (takeN (Nat.mul len (sizeOf P e)) (dropN o cs) ++ new) cl 1) hbase hB rfl hchg hown
      (fun cs' c' s' he => by cases he; exact Nat.le_of_lt hcl)
      (fun b' o' B' hb' hB' heq => by
        have hcase : ∃ cs', o' = .cells cs' cl 2 ∧ B'.base + B'.m ≤ B.base + B.m := by
          rw [Tr.get_set _ _ _ _ (by omega)] at hb'
          by_cases e1 : b' = b
          · subst e1
            rw [if_pos rfl] at hb'; cases hb'
            rw [hB] at hB'; cases hB'
            exact ⟨cs, rfl, Nat.le_refl _⟩
          · rw [if_neg e1] at hb'; exact hoth b' o' B' e1 hb' hB' heq
        obtain ⟨cs', rfl, hle⟩ := hcase
        obtain ⟨B2, arr2, e2, fz2, hB2, hg2, hsz2, hBm2, hBn2, hv2, hat2, hst2⟩ := H2.obj _ _ hb'
        rw [hB'] at hB2; cases hB2
        have heq' : B'.blk = B.blk := heq
        rw [heq', hg] at hg2; cases hg2
        refine ⟨⟨B', _, et, (0, 0), hB', by rw [heq']; exact hchg.at_, by simp only [List.size_toArray]; rw [hwl]; omega, hBm2, hBn2, ?_, hat2, .inr ⟨Nat.le_refl _, by rw [heq']; exact hbase, rfl⟩⟩,
          .inr ⟨rfl, by omega, by omega, by omega, by omega, fun _ => ?_, fun q => by omega, fun q => by omega⟩⟩
        · show VRs ν ι cs' (((wrote arr.toList (B.base + (o + len * sizeOf P e)) us).drop B'.base).take cs'.length)
          rw [wrote_ahead (by omega) (by simpa using hroom)]
          exact hv2
        · show B'.base + B'.m ≤ B.base + o + (len + n) * sizeOf P e
          rw [Nat.add_mul]; omega)
      (natBle.1 hnx2)
    refine ⟨_, _, hmodel, _, _, _, hin.2, hin.1, ?_, hk'⟩
    simp only [VR]
    refine ⟨_, _, cc, Inj.put_same .., rfl, hfit, by omega, rfl, .inr rfl, ?_, ?_⟩
    · show (len + n) * sizeOf P e ≤ _; rw [Nat.add_mul]; omega
    · show B.base + o + 0 + cc * sizeOf P e ≤ B.n; omega
  · -- a new one
    have hk2 : newRowC ⟨σ.hp.set b (some (.cells cs cl 2)), σ.nx⟩ (takeN (Nat.mul len (sizeOf P e)) (dropN o cs) ++ new) cl 1 (fun b σ => k (.slice (sizeOf P e) b 0 (Nat.add len n) none) σ) = some r := hk
    obtain ⟨c, hc, hrun⟩ := A.grow (some a) len cc os (by omega) h2 (hor _ rfl)
    have hsz : (os.toArray ++ us.toArray ++ Builtin.zeroCells z.cells (c - (len + n))).size = c * sizeOf P e := by
      simp only [Array.size_append, List.size_toArray, zeroCells_size, A.zlen, hol, hA]
      rw [← Nat.add_mul, ← Nat.add_mul]
      congr 1; omega
    have hle : (len + n) * sizeOf P e ≤ c * sizeOf P e := Nat.mul_le_mul_right _ hc
    obtain ⟨σ', q1, q2, q3⟩ := newRowC_ok H2.drew hk2 (atoms_append hoa hna) (Nat.le_of_lt hcl) (os.toArray ++ us.toArray ++ Builtin.zeroCells z.cells (c - (len + n))) e (by rw [hsz, hm]; exact hle)
      (by rw [take_both (by rw [List.length_append, hl1, hl2])]; exact ho.append hn)
    refine ⟨_, _, hrun, _, σ', _, (Step.drew ι w).trans q3, q2, ?_, q1⟩
    simp only [VR]
    refine ⟨_, _, c, Inj.put_same .., rfl, hc, by omega, rfl, .inr rfl, ?_, ?_⟩
    · show (_ ++ new).length ≤ _; rw [hm]; omega
    · show 0 + 0 + c * sizeOf P e ≤ (os.toArray ++ us.toArray ++ Builtin.zeroCells z.cells (c - (len + n))).size; omega
end
end Go.Eng
