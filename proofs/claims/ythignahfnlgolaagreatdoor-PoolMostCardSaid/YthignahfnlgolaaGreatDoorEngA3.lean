/- The symbolic executor's append, as the program calls it, follows the model's. Conditions: none. -/
import Derived.Test.YthignahfnlgolaaGreatDoorEngA2
namespace Go.Eng
section
variable {ν : Nat → Int} {base : Nat} {W w : World} {σ : St} {ι : Inj} {R : Type} {P : Program} {C : Cfg}

theorem forget_keep {t : Tr LO} {b : Nat} {cs : List LV} {cl st : Nat} (hb : t.get b = some (.cells cs cl st)) : (forget t cl b).get b = some (.cells cs cl st) := by
  rw [forget_get, hb]
  simp only [Option.bind_some]
  rw [if_pos ((others_spec _ _ _ _).2 fun _ _ _ _ _ => rfl)]
theorem appSlice_ok (H : Rep ν base W σ ι w) {ats : Array TypeId} {ty e : TypeId} {xv : Value} {n : Nat} {us : List Value} {z : Value} (A : AR P w ats ty e xv n us z) (hz : sizeOf P e ≠ 0)
    {b o len cc cl st : Nat} {cap : Option Nat} {B : Blk} {a : Addr} {cs : List LV} (hb : σ.hp.get b = some (.cells cs cl st)) (hB : ι b = some B) (hsp : a.spot = none) (ha : cc = 0 ∨ a = ⟨B.blk, B.base + o, none⟩) (hlc : len ≤ cc)
    (hcap : match cap with | some c => cc = c | none => B.m ≤ o + cc * sizeOf P e ∧ B.base + o + cc * sizeOf P e ≤ B.n) (h2 : len + n ≤ 1048576)
    {new : List LV} (hn : VRs ν ι new us) (hna : atoms new = true) {k : K R} {r : R}
    (hk : appSlice σ (sizeOf P e) b o len cap n new k cs cl st = some r) : VGood P ν base W ι w (Builtin.append_ ats ty #[.slice (some a) len cc, xv]) k r := by
  have hsure := sure_le H hb hB (Nat.pos_of_ne_zero hz) hcap
  have hA := A.len
  have hl2 := hn.length
  have hnx := H.nx
  have hblt := H.fresh _ _ hB
  obtain ⟨B0, arr, et, fz, hB0, hg, hsz, hBm, hBn, hv, hat, hst⟩ := H.obj _ _ hb
  rw [hB] at hB0; cases hB0
  unfold appSlice at hk
  cases h1 : Nat.ble (Nat.add len n) (sureCap (sizeOf P e) o (lenL cs) cap) with
  | true =>
    rw [h1, cond_true] at hk
    have hfit : len + n ≤ cc := Nat.le_trans (natBle.1 h1) hsure
    obtain ⟨B', σ', w', hB', hk, hr, hrp, hstp⟩ := stCells_ok (P := P) H hk hna hn
    rw [hB] at hB'; cases hB'
    have hmodel := A.fit (some a) len cc w' hfit (fun a' he => by
      cases he
      rcases ha with h | rfl
      · have hn0 : n = 0 := by omega
        subst hn0
        have : us = [] := by simpa using hA
        subst this
        have e1 : (storeCells (⟨B.blk, B.base + Nat.add o (Nat.mul len (sizeOf P e)), none⟩ : Addr) []).run P w = .ok () w := rfl
        rw [e1] at hr
        cases hr
        rfl
      · rw [Addr.add_lit, Nat.add_assoc]; exact hr) (fun he => by cases he)
    refine ⟨_, w', hmodel, _, σ', ι, hstp, hrp, ?_, hk⟩
    simp only [VR]
    exact ⟨B, a, cc, hB, rfl, hfit, Nat.pos_of_ne_zero hz, hsp, ha, hcap⟩
  | false =>
    rw [h1, cond_false] at hk
    obtain ⟨hle, hk⟩ := cond_some hk
    have hle : o + len * sizeOf P e ≤ cs.length := by have := natBle.1 hle; rw [lenL_eq] at this; exact this
    have hnot : ¬ (len + n ≤ sureCap (sizeOf P e) o (lenL cs) cap) := fun q => by rw [show Nat.ble (Nat.add len n) (sureCap (sizeOf P e) o (lenL cs) cap) = true from natBle.2 q] at h1; cases h1
    cases cap with
    | some c =>
      simp only at hcap; subst hcap
      simp only [freshTo, app_eq] at hk
      obtain ⟨os, ho, hoa, hol, hor⟩ := old_ok (P := P) (s := sizeOf P e) H hb hB ha hlc hle
      exact grown_ok H A hz (by simp only [sureCap] at hnot; omega) h2 (hor _ rfl) hol ho hoa hn hna hk
    | none =>
      simp only at hcap hk
      have hpos : 0 < len + n := by omega
      cases h3 : Nat.beq (Nat.add o (Nat.mul len (sizeOf P e))) (lenL cs) with
      | true =>
        rw [h3, cond_true] at hk
        have hend : o + len * sizeOf P e = cs.length := by have := natBeq.1 h3; rw [lenL_eq] at this; exact this
        cases h4 : Nat.ble st 1 with
        | true =>
          rw [h4, cond_true] at hk
          have hst1 := natBle.1 h4
          refine maybe_ok H A hz hb (by omega) hB ha hlc hcap hend h2 hpos ?_ hn hna hk
          intro b' o' B' hne hb' hB' heq
          have hsh := H.apart b b' _ _ B B' (Ne.symm hne) hb hb' hB hB' heq.symm
          cases o' with
          | cells cs' c' s' =>
            rcases hsh with ⟨q1, _⟩ | ⟨q1, q2, q3, q4, q5, q6, q7, q8⟩
            · omega
            · subst q1
              have hs' : s' = 2 := by
                have : ¬ s' = 1 := fun q => q8 ⟨by omega, q⟩
                omega
              subst hs'
              exact ⟨cs', rfl, q7 (by omega)⟩
          | map => exact hsh.elim
          | mit => exact hsh.elim
        | false =>
          rw [h4, cond_false] at hk
          obtain ⟨h5, hk⟩ := cond_some hk
          have hst2 := natBeq.1 h5
          subst hst2
          have H' := H.less (forget σ.hp cl b) (forget_less _ _ _)
          have hal := alone_forget H hb hB (Nat.le_refl 2)
          refine maybe_ok H' A hz (forget_keep hb) (Nat.le_refl 2) hB ha hlc hcap hend h2 hpos ?_ hn hna hk
          intro b' o' B' hne hb' hB' heq
          exact absurd heq (hal b' o' B' hne hb' hB')
      | false =>
        rw [h3, cond_false] at hk
        obtain ⟨h5, hk⟩ := cond_some hk
        have hst2 := natBle.1 h5
        obtain ⟨_, hbase, hfz⟩ := hst.resolve_left (by omega)
        subst hfz
        rw [app_eq] at hk
        obtain ⟨os, ho, hoa, hol, hor⟩ := old_ok (P := P) (s := sizeOf P e) H hb hB ha hlc hle
        have hget : ∀ j, ((forget σ.hp cl b).set b none).get j = if j = b then none else (forget σ.hp cl b).get j := fun j => Tr.get_set _ _ _ _ (by omega)
        have hless : ∀ j o', ((forget σ.hp cl b).set b none).get j = some o' → σ.hp.get j = some o' := by
          intro j o' hj
          rw [hget] at hj
          split at hj
          · cases hj
          · exact forget_less _ _ _ _ _ hj
        have H' := H.less ((forget σ.hp cl b).set b none) hless
        by_cases hfit : len + n ≤ cc
        · -- in place
          have haa := ha.resolve_left (by omega)
          subst haa
          have hl1 := ho.length
          have hneed : (len + n) * sizeOf P e ≤ cc * sizeOf P e := Nat.mul_le_mul_right _ hfit
          rw [Nat.add_mul] at hneed
          have hroom : B.base + (o + len * sizeOf P e) + us.length ≤ arr.size := by rw [hsz, hA]; omega
          have hone := VRs.one hna hn
          have hrun := run_storeCells_at P B.blk (B.base + (o + len * sizeOf P e)) et us 0 arr w hg (by simpa using hroom) hone
          have hchg : Chg w (w.setRow B.blk (wrote arr.toList (B.base + (o + len * sizeOf P e)) us).toArray) B.blk (.cells (wrote arr.toList (B.base + (o + len * sizeOf P e)) us).toArray et (0, 0)) := .setRow hg
          have hwl : (wrote arr.toList (B.base + (o + len * sizeOf P e)) us).length = B.n := by rw [wrote_length (by simpa using hroom)]; simpa using hsz
          have hm : (takeN (Nat.mul len (sizeOf P e)) (dropN o cs) ++ new).length = (len + n) * sizeOf P e := by rw [List.length_append, hl1, hl2, hol, hA, Nat.add_mul]
          have hmodel := A.fit (some ⟨B.blk, B.base + o, none⟩) len cc _ hfit (fun a' he => by
            cases he
            rw [Addr.add_lit, Nat.add_assoc]
            simp only [Nat.add_zero] at hrun
            exact hrun) (fun he => by cases he)
          obtain ⟨hp, nx⟩ := σ
          have hk' : cond (Nat.ble nx 500000000) (k (.slice (sizeOf P e) nx 0 (Nat.add len n) none) ⟨((forget hp cl b).set b none).set nx (some (.cells (takeN (Nat.mul len (sizeOf P e)) (dropN o cs) ++ new) nx 0)), Nat.succ nx⟩) none = some r := hk
          obtain ⟨hnx2, hk'⟩ := cond_some hk'
          have hown : OR ν base (w.setRow B.blk (wrote arr.toList (B.base + (o + len * sizeOf P e)) us).toArray) (ι.put nx ⟨B.blk, B.base + o, B.n, (len + n) * sizeOf P e⟩) nx (.cells (takeN (Nat.mul len (sizeOf P e)) (dropN o cs) ++ new) nx 0) := by
            refine ⟨_, _, et, (0, 0), Inj.put_same .., hchg.at_, by simpa using hwl, hm.symm, ?_, ?_, atoms_append hoa hna, .inr ⟨by omega, hbase, rfl⟩⟩
            · show B.base + o + (len + n) * sizeOf P e ≤ B.n
              rw [Nat.add_mul]; omega
            · refine VRs.mono (Inj.le_put _ H.unfresh) _ _ ?_
              rw [hm]
              show VRs ν ι _ (((wrote arr.toList (B.base + (o + len * sizeOf P e)) us).toArray.toList.drop (B.base + o)).take _)
              have hseg := hv.seg (o := o) (n := len * sizeOf P e) rfl (by omega)
              rw [takeN_eq, dropN_eq]
              have hw : ((wrote arr.toList (B.base + (o + len * sizeOf P e)) us).drop (B.base + o)).take ((len + n) * sizeOf P e) = (arr.toList.drop (B.base + o)).take (len * sizeOf P e) ++ us := by
                rw [← Nat.add_assoc]
                rw [wrote_seg (by rw [Nat.add_assoc B.base]; simpa using hroom) (by rw [hA, Nat.add_mul]; omega)]
                rw [List.take_take, show min (len * sizeOf P e) ((len + n) * sizeOf P e) = len * sizeOf P e by rw [Nat.add_mul]; omega]
                have hnil : (((arr.toList.drop (B.base + o)).take ((len + n) * sizeOf P e)).drop (len * sizeOf P e + us.length)) = [] := by
                  apply List.drop_eq_nil_of_le
                  have := List.length_take_le ((len + n) * sizeOf P e) (arr.toList.drop (B.base + o))
                  have h5 : (len + n) * sizeOf P e = len * sizeOf P e + n * sizeOf P e := Nat.add_mul ..
                  omega
                rw [hnil, List.append_nil]
              simp only
              rw [hw]
              exact hseg.append hn
          have hal := alone_forget H hb hB hst2
          have hin := H'.inplace (B := ⟨B.blk, B.base + o, B.n, (len + n) * sizeOf P e⟩) (o := .cells (takeN (Nat.mul len (sizeOf P e)) (dropN o cs) ++ new) nx 0) hbase hB rfl hchg hown
            (fun cs' c' s' he => by cases he; exact Nat.le_refl _)
            (fun b' o' B' hb' hB' heq => by
              exfalso
              rw [hget] at hb'
              split at hb'
              · cases hb'
              · rename_i hne
                exact hal b' o' B' hne hb' hB' heq)
            (natBle.1 hnx2)
          refine ⟨_, _, hmodel, _, _, _, hin.2, hin.1, ?_, hk'⟩
          simp only [VR]
          refine ⟨_, _, cc, Inj.put_same .., rfl, hfit, by omega, rfl, .inr rfl, ?_, ?_⟩
          · show (len + n) * sizeOf P e ≤ _; rw [Nat.add_mul]; omega
          · show B.base + o + 0 + cc * sizeOf P e ≤ B.n; omega
        · exact grown_ok H' A hz (by omega) h2 (hor _ rfl) hol ho hoa hn hna hk

theorem appendTo_ok (H : Rep ν base W σ ι w) {ats : Array TypeId} {ty e : TypeId} {xv : Value} {n bytes : Nat} {us : List Value} {z : Value} (A : AR P w ats ty e xv n us z) (hz : sizeOf P e ≠ 0) (hnl : n ≤ 1048576)
    {v : LV} {av : Value} (ha : VR ν ι v av) {new : List LV} (hn : VRs ν ι new us) (hna : atoms new = true) {k : K R} {r : R}
    (hk : appendTo σ (sizeOf P e) bytes n v new k = some r) : VGood P ν base W ι w (Builtin.append_ ats ty #[av, xv]) k r := by
  unfold appendTo at hk
  split at hk
  · simp only [VR] at ha; subst ha
    cases h0 : Nat.beq n 0 with
    | true =>
      rw [h0, cond_true] at hk
      have hn0 := natBeq.1 h0
      have := A.fit none 0 0 w (by omega) (fun a he => by cases he) (fun _ => rfl)
      refine ⟨_, w, this, _, σ, ι, .refl _ _, H, ?_, hk⟩
      simp only [VR]; rw [hn0]
    | false =>
      rw [h0, cond_false] at hk
      have hn0 : n ≠ 0 := fun q => by rw [q] at h0; cases h0
      refine grown_ok H A hz (len := 0) (cap := 0) (os := []) (ol := []) (new := new) (by omega) (by omega) (by simp [Builtin.firstCells]) (by simp) VRs_nil rfl hn hna ?_
      simpa using hk
  · rename_i s' b o len cap
    obtain ⟨h1, hk'⟩ := cond_some hk
    clear hk
    simp only [Bool.and_eq_true, natBeq] at h1
    obtain ⟨hs, h1⟩ := h1
    have h1 : len + n ≤ 1048576 := natBle.1 h1
    subst hs
    obtain ⟨cs, cl, st, hb, hk⟩ := withCells_ok H hk'
    simp only [VR] at ha
    obtain ⟨B, a, cc, hB, rfl, hlc, _, hsp, hadr, hcap⟩ := ha
    exact appSlice_ok H A hz hb hB hsp hadr hlc hcap h1 hn hna hk
  · cases hk
/-- so long is it -/
def lenIs (x : LV) (n : Nat) : Prop := match x with | .slice _ _ _ m _ => n = m | .nilslice => n = 0 | .str s => n = s.length | _ => False
theorem lenV_ok {x : LV} {v : Value} {k : Nat → Option R} {r : R} (hx : VR ν ι x v) (hk : lenV x k = some r) : ∃ n, k n = some r ∧ (Builtin.lenOf v).run P w = .ok n w ∧ lenIs x n := by
  unfold lenV at hk
  split at hk
  · simp only [VR] at hx; obtain ⟨_, _, _, _, rfl, _⟩ := hx; exact ⟨_, hk, rfl, rfl⟩
  · simp only [VR] at hx; subst hx; exact ⟨_, hk, rfl, rfl⟩
  · simp only [VR] at hx; obtain ⟨s, rfl, rfl⟩ := hx; exact ⟨_, hk, by simp [Builtin.lenOf], rfl⟩
  · cases hk
theorem bytes_VRs (ν : Nat → Int) (ι : Inj) : ∀ l : List UInt8, VRs ν ι ((l.map UInt8.toNat).map fun b => .int .u8 (.ofNat b)) (l.map fun b => Value.int .u8 (b.toNat : Int))
  | [] => VRs_nil
  | b :: l => by simp only [List.map_cons]; exact VRs_cons VR_int (bytes_VRs ν ι l)
theorem bytes_atoms : ∀ l : List Nat, atoms (l.map fun b => LV.int .u8 (.ofNat b)) = true
  | [] => rfl
  | b :: l => by simp only [List.map_cons, atoms, atom, bytes_atoms l]; rfl
theorem firstCells_ok (H : Rep ν base W σ ι w) {x : LV} {v : Value} (hx : VR ν ι x v) {s n : Nat} (hn : lenIs x n)
    {k : List LV → Option R} {r : R} (hk : firstCells σ s n x k = some r) : ∃ cs us, k cs = some r ∧ VRs ν ι cs us ∧ atoms cs = true ∧ us.length = n * s ∧
      ∀ w', w'.heap = w.heap → (Builtin.firstCells s n v).run P w' = .ok us.toArray w' := by
  unfold firstCells at hk
  split at hk
  · rename_i s' b o len cap
    obtain ⟨h1, hk⟩ := cond_some hk
    obtain ⟨B, cs, us, hB, hk, hv, hat, hl, _, hr⟩ := ldCells_ok (P := P) H hk
    simp only [VR] at hx
    obtain ⟨B', a, cc, hB', rfl, hlc, _, _, hadr, _⟩ := hx
    rw [hB] at hB'; cases hB'
    simp only [lenIs] at hn; subst hn
    refine ⟨cs, us, hk, hv, hat, hl, fun w' hw' => ?_⟩
    rcases hadr with h | rfl
    · have : n = 0 := by omega
      subst this
      have : us = [] := by simpa using hl
      subst this
      simp [Builtin.firstCells, loadCells, loadCellsFrom]
    · exact hr w' hw'
  · obtain ⟨h1, hk⟩ := cond_some hk
    have := natBeq.1 h1; subst this
    simp only [VR] at hx; subst hx
    exact ⟨[], [], hk, VRs_nil, rfl, by simp, fun w' _ => by simp [Builtin.firstCells]⟩
  · obtain ⟨h1, hk⟩ := cond_some hk
    have := natBeq.1 h1; subst this
    simp only [VR] at hx
    obtain ⟨s, rfl, rfl⟩ := hx
    have hn : n = s.data.size := by simpa [lenIs] using hn
    have hss : s.size = s.data.size := rfl
    rw [List.take_of_length_le (by simp; omega)] at hk
    refine ⟨_, _, hk, bytes_VRs ν ι s.data.toList, bytes_atoms _, by simp; omega, fun w' _ => ?_⟩
    have : (s.extract 0 n).data = s.data := by
      simp only [ByteArray.data_extract]
      rw [Array.extract_eq_self_of_le]
      omega
    simp only [Builtin.firstCells, this, Sem.run_pure]
    congr 1
    apply Array.ext'
    simp
  · cases hk
theorem rAppend_ok (H : Rep ν base W σ ι w) {ats : Array TypeId} {ty t u e : TypeId} (h0 : ats[0]? = some t) (h1 : ats[1]? = some u) (hd : und P t = some (.slice e)) {du : TypeDesc} (hu : und P u = some du)
    (hz : sizeOf P e ≠ 0) {z : LV} (hzo : zeroOf P e = some z) (hzl : z.cells.length = sizeOf P e) (hb : bytesOf P e ≤ 65536) {v x : LV} {av xv : Value} (ha : VR ν ι v av) (hx : VR ν ι x xv) {k : K R} {r : R}
    (hk : rAppend σ (sizeOf P e) (bytesOf P e) z.cells (isIntT P u) v x k = some r) : VGood P ν base W ι w (Builtin.append_ ats ty #[av, xv]) k r := by
  have hinf : ∃ i, P.info? e = some i := by
    cases q : P.info? e with
    | none => exact absurd (by simp [sizeOf, q]) hz
    | some i => exact ⟨i, rfl⟩
  obtain ⟨i, hi⟩ := hinf
  have hbi : i.bytes ≤ 65536 := by simpa [bytesOf, hi] using hb
  have hzr : ∃ zv, (∀ w, (Go.zeroValue e).run P w = .ok zv w) ∧ VRs ν ι z.cells zv.cells.toList ∧ atoms z.cells = true := by
    obtain ⟨zv, q1, q2, q3, q4⟩ := zero_run (P := P) (w := w) (ν := ν) (ι := ι) hzo
    refine ⟨zv, fun w' => ?_, q3, q4⟩
    obtain ⟨zv', q1', _⟩ := zero_run (P := P) (w := w') (ν := ν) (ι := ι) hzo
    have e1 : (Go.zeroValue e).run P w' = .ok zv w' := by
      simp only [Go.zeroValue, Sem.run_bind, info_run hi, Result.andThen_ok] at q1 ⊢
      cases q : i.zero with
      | none => rw [q] at q1; cases q1
      | some y => rw [q] at q1; cases q1; rfl
    exact e1
  obtain ⟨zv, hzv, hzc, hza⟩ := hzr
  have hzsz : zv.cells.size = sizeOf P e := by have := hzc.length; simp only [Array.length_toList] at this; omega
  unfold rAppend at hk
  cases hint : isIntT P u with
  | true =>
    rw [hint, cond_true] at hk
    obtain ⟨kd, n, rfl, hk⟩ := withNat_ok hx hk
    obtain ⟨hn, hk⟩ := cond_some hk
    have hn := natBle.1 hn
    have hdu : ∃ kk, du = .int kk := by
      unfold isIntT at hint; rw [hu] at hint
      cases du <;> first | exact ⟨_, rfl⟩ | cases hint
    obtain ⟨kk, rfl⟩ := hdu
    have hrep : VRs ν ι (rep z.cells n) (Builtin.zeroCells zv.cells n).toList := by
      have := rep_VRs hzc n
      rw [Builtin.zeroCells, zeros_eq]; simpa using this
    have hap : ∀ w : World, (if n * sizeOf P e = 0 then pure #[] else do pure (Builtin.zeroCells (← zeroValue e).cells n) : Sem (Array Value)).run P w = .ok (Builtin.zeroCells zv.cells n).toList.toArray w := by
      intro w
      by_cases h : n * sizeOf P e = 0
      · have hn0 : n = 0 := (Nat.mul_eq_zero.1 h).resolve_right hz
        subst hn0
        rw [if_pos h]
        simp [Builtin.zeroCells]
      · rw [if_neg h]; simp only [Sem.run_bind, hzv, Result.andThen_ok, Sem.run_pure, Array.toArray_toList]
    have A : AR P w ats ty e (.int kd (Int.ofNat n)) n (Builtin.zeroCells zv.cells n).toList zv :=
      ⟨by simp [zeroCells_size, hzsz], hzsz, fun ba len cap w' hf hs hno => append_fit0 h0 h1 hd hu hz hi (few hn hbi) (hap w) hf hs hno,
        fun ba len cap os hf hl ho => append_grow0 h0 h1 hd hu hz hi hbi (few hn hbi) (hap w.drew) hf hl ho hzv⟩
    exact appendTo_ok H A hz hn ha hrep (atoms_rep hza n) hk
  | false =>
    rw [hint, cond_false] at hk
    obtain ⟨n, hk, hlen, hnx⟩ := lenV_ok (P := P) (w := w) hx hk
    obtain ⟨hn, hk⟩ := cond_some hk
    have hn := natBle.1 hn
    obtain ⟨new, us, hk, hv, hat, hl, hr⟩ := firstCells_ok (P := P) H hx hnx hk
    have A : AR P w ats ty e xv n us zv :=
      ⟨hl, hzsz, fun ba len cap w' hf hs hno => append_fit h0 h1 hd hu hint hz hlen (hr w rfl) hf hs hno,
        fun ba len cap os hf hlm ho => append_grow h0 h1 hd hu hint hz hi hbi hlen (hr w.drew rfl) hf hlm ho hzv⟩
    exact appendTo_ok H A hz hn ha hv hat hk
end
end Go.Eng
