/- The symbolic executor's operations that do not write follow the model's: literals, maps, conversions, lengths. Conditions: none. -/
import Derived.Test.YthignahfnlgolaaGreatDoorEngPure3
import Derived.MapKept
import Derived.Laws.BytesString
namespace Go.Eng
section
variable {ν : Nat → Int} {base : Nat} {W w : World} {σ : St} {ι : Inj} {R : Type} {P : Program} {C : Cfg}

/-! ## literals -/
theorem fold_put (off : Nat) : ∀ (us : List Value) (i : Nat) (cells : Array Value), off + i + us.length ≤ cells.size →
    ((us.zipIdx i).foldl (fun cs (x : Value × Nat) => cs.setIfInBounds (off + x.2) x.1) cells).toList = wrote cells.toList (off + i) us
  | [], i, cells, _ => by simp [wrote]
  | u :: r, i, cells, h => by
    simp only [List.length_cons] at h
    have ih := fold_put off r (i + 1) (cells.setIfInBounds (off + i) u) (by simp; omega)
    simp only [List.zipIdx_cons, List.foldl_cons]
    rw [ih]
    have e := list_seg_step cells.toList (off + i) u r (by simp; omega)
    simp only [wrote, Array.toList_setIfInBounds, List.length_cons]
    exact e
theorem VRs.put0 {xs vs : List LV} {l us : List Value} {o : Nat} (h : VRs ν ι xs l) (hv : VRs ν ι vs us) (ho : o + vs.length ≤ xs.length) : VRs ν ι (putL vs o xs) (wrote l o us) := by
  have hlen := hv.length
  rw [putL_eq _ _ _ (by omega), wrote, ← hlen]
  exact ((h.take o).append hv).append (h.drop (o + vs.length))
theorem fill_ok {loc : List LV} {fr : Fr} {env : Env} {ρ : Operand → Value} (HX : ∀ x, VR ν ι (ev loc fr (cX env x)) (ρ x)) {place place' : Nat → Option (Nat × Nat)} (hp : ∀ i q, place i = some q → place' i = some q) {k : List LV → Option R} {r : R} :
    ∀ {parts : List (Nat × Operand)} {ps : List (Nat × Nat × X)} {cs : List LV} {vs : Array Value}, cParts env place parts = some ps → VRs ν ι cs vs.toList → atoms cs = true → fillP loc fr k ps cs = some r →
      ∃ cs' vs', Instr.fill place' vs (parts.map fun (i, x) => (i, ρ x)) = some vs' ∧ vs'.size = vs.size ∧ VRs ν ι cs' vs'.toList ∧ atoms cs' = true ∧ k cs' = some r
  | [], ps, cs, vs, hc, hv, ha, hk => by
    simp only [cParts] at hc; cases hc
    exact ⟨cs, vs, rfl, rfl, hv, ha, hk⟩
  | (i, x) :: parts, ps, cs, vs, hc, hv, ha, hk => by
    simp only [cParts] at hc
    split at hc
    · rename_i o s l h1 h2
      cases hc
      simp only [fillP] at hk
      obtain ⟨h3, hk⟩ := cond_some hk
      simp only [Bool.and_eq_true, natBeq, natBle, lenL_eq] at h3
      obtain ⟨⟨h3, h4⟩, h5⟩ := h3
      have hx := HX x
      obtain ⟨hcx, hax⟩ := hx.cells h3
      have hl1 := hcx.length
      have hl2 := hv.length
      simp only [Array.length_toList] at hl1 hl2
      have hput : VRs ν ι (putL (ev loc fr (cX env x)).cells o cs) ((ρ x).cells.zipIdx.foldl (fun cs (x : Value × Nat) => cs.setIfInBounds (o + x.2) x.1) vs).toList := by
        have e := fold_put o (ρ x).cells.toList 0 vs (by simp; omega)
        rw [← Array.foldl_toList, Array.toList_zipIdx, e]
        exact hv.put0 hcx (by omega)
      have hsz : ((ρ x).cells.zipIdx.foldl (fun cs (x : Value × Nat) => cs.setIfInBounds (o + x.2) x.1) vs).size = vs.size := by
        have := hput.length
        rw [putL_length (by omega)] at this
        simp only [Array.length_toList] at this
        omega
      obtain ⟨cs', vs', g1, g2, g3, g4, g5⟩ := fill_ok HX hp h2 hput (putL_atoms (by omega) ha hax) hk
      refine ⟨cs', vs', ?_, by omega, g3, g4, g5⟩
      simp only [List.map_cons, Instr.fill, hp _ _ h1]
      rw [if_neg (by simp; omega)]
      exact g1
    · cases hc
theorem mapM_places {fs : Array Field} (h : (fs.all fun f => (P.info? f.type).isSome) = true) :
    (fs.mapM fun f => do pure (f.offset, ← Go.sizeOf f.type) : Sem (Array (Nat × Nat))).run P w = .ok (fs.map fun f => (f.offset, sizeOf P f.type)) w := by
  have hl : ∀ (l : List Field), (∀ f ∈ l, (P.info? f.type).isSome = true) → (l.mapM fun f => do pure (f.offset, ← Go.sizeOf f.type) : Sem (List (Nat × Nat))).run P w = .ok (l.map fun f => (f.offset, sizeOf P f.type)) w := by
    intro l
    induction l with
    | nil => intro _; rfl
    | cons f l ih =>
      intro hf
      obtain ⟨i, hi⟩ := Option.isSome_iff_exists.1 (hf f (List.mem_cons_self ..))
      simp only [List.mapM_cons, Sem.run_bind, size_run' hi, Result.andThen_ok, Sem.run_pure, ih fun g hg => hf g (List.mem_cons_of_mem _ hg)]; rfl
  rw [Array.mapM_eq_mapM_toList]
  simp only [Sem.run_map]
  rw [hl fs.toList (fun f hf => by rw [Array.all_eq_true'] at h; exact h f (by simpa using hf))]
  simp only [Result.andThen_ok]
  congr 1
  apply Array.ext'
  simp
theorem place_struct {fs : Array Field} : ∀ i q, fieldPlace P fs i = some q → (fs.map fun f => (f.offset, sizeOf P f.type))[i]? = some q := by
  intro i q h
  unfold fieldPlace at h
  split at h
  · rename_i f hf
    split at h
    · rename_i t ht
      cases h
      simp [hf, sizeOf, ht]
    · cases h
  · cases h
theorem map_parts (parts : Array (Nat × Operand)) (ρ : Operand → Value) : (parts.map fun (i, x) => (i, ρ x)).toList = parts.toList.map fun (i, x) => (i, ρ x) := by simp
theorem VR_agg {cs : List LV} {vs : Array Value} (h : VRs ν ι cs vs.toList) (ha : atoms cs = true) : VR ν ι (.agg cs) (.agg vs) := by
  simp only [VR]; exact ⟨vs, rfl, h, ha⟩
theorem build_ok {loc : List LV} {fr : Fr} {env : Env} {ρ : Operand → Value} (HX : ∀ x, VR ν ι (ev loc fr (cX env x)) (ρ x)) {t : Nat} {parts : Array (Nat × Operand)} {z : List LV} {ps : List (Nat × Nat × X)}
    (hc : cBuild P env t parts.toList = .p (.build z ps)) {k : LV → Option R} {r : R} (hk : fillP loc fr (fun l => k (.agg l)) ps z = some r) :
    PGood P ν ι w (Instr.build t (parts.map fun (i, x) => (i, ρ x))) k r := by
  unfold cBuild at hc
  split at hc
  · rename_i fs z' hd hz
    cases hall : fs.all (fun f => (P.info? f.type).isSome) with
    | false => rw [hall] at hc; cases hc
    | true =>
      rw [hall, cond_true] at hc
      split at hc
      · rename_i l hl
        cases hc
        obtain ⟨v, h1, h2, h3, h4⟩ := zero_run (P := P) (w := w) (ν := ν) (ι := ι) hz
        obtain ⟨cs', vs', g1, g2, g3, g4, g5⟩ := fill_ok HX (place_struct (P := P) (fs := fs)) hl h3 h4 hk
        refine .of g5 (VR_agg g3 g4) ?_
        simp only [Instr.build, Sem.run_bind, h1, Result.andThen_ok, und_run hd, mapM_places hall, map_parts]
        rw [g1]; rfl
      · cases hc
  · rename_i n e z' hd hz
    cases hn : Nat.beq (sizeOf P e) 0 with
    | true => rw [hn] at hc; cases hc
    | false =>
      rw [hn, cond_false] at hc
      have hne : sizeOf P e ≠ 0 := fun q => by rw [q] at hn; cases hn
      split at hc
      · rename_i l hl
        cases hc
        obtain ⟨v, h1, h2, h3, h4⟩ := zero_run (P := P) (w := w) (ν := ν) (ι := ι) hz
        obtain ⟨cs', vs', g1, g2, g3, g4, g5⟩ := fill_ok HX (fun i q h => h) hl h3 h4 hk
        refine .of g5 (VR_agg g3 g4) ?_
        simp only [Instr.build, Sem.run_bind, h1, Result.andThen_ok, und_run hd, size_run hne, map_parts]
        rw [g1]; rfl
      · cases hc
  · cases hc

/-! ## maps -/
theorem getObj_run {r : Nat} {o : Obj} (h : w.heap[r]? = some o) (hc : ∀ c e f, o ≠ .cells c e f) : (getObj r).run P w = .ok o w := by
  cases o <;> simp_all [getObj, Sem.run]
/-- a key's type -/
def keyD (str : Bool) (d : TypeDesc) : Prop := cond str (d = .string) (∃ k, d = .int k)
theorem isStrK_ok {t : Nat} {q : Bool} (h : isStrK P t = some q) : ∃ d, und P t = some d ∧ keyD q d := by
  unfold isStrK at h
  split at h
  · rename_i k hd; cases h; exact ⟨_, hd, k, rfl⟩
  · rename_i hd; cases h; exact ⟨_, hd, rfl⟩
  · cases h
theorem checkKey_run {t : Nat} {q : Bool} {d : TypeDesc} (hd : und P t = some d) (hq : keyD q d) (b : Bool) (v : Value) : (Instr.checkKey b 10000 t v).run P w = .ok () w := by
  show (Instr.checkKey b (9999 + 1) t v).run P w = _
  rw [Instr.checkKey]
  cases q with
  | true => simp only [keyD, cond_true] at hq; subst hq; simp only [Sem.run_bind, und_run hd, Result.andThen_ok]; rfl
  | false => simp only [keyD, cond_false] at hq; obtain ⟨k, rfl⟩ := hq; simp only [Sem.run_bind, und_run hd, Result.andThen_ok]; rfl
theorem keyEq_ok (hC : C.Holds ν) {q : Bool} {d : TypeDesc} (hq : keyD q d) {x y : LV} {u v : Value} (hx : VR ν ι x u) (hy : VR ν ι y v) (ho : keyOk q x = true) {c : Bool}
    (h : keyEq C x y = some c) : Instr.sameNow d u v = some c := by
  unfold keyEq at h
  split at h
  · obtain ⟨h1, h2⟩ := cond_some h
    have := kEq_iff.1 h1; subst this
    cases q with
    | true => cases ho
    | false =>
      obtain ⟨k, rfl⟩ := hq
      simp only [VR] at hx hy; subst hx; subst hy
      simp only [Instr.sameNow, if_true]
      rw [intEq_eq] at h2; exact h2
  · obtain ⟨h1, h2⟩ := cond_some h
    have := kEq_iff.1 h1; subst this
    cases q with
    | true => cases ho
    | false =>
      obtain ⟨k, rfl⟩ := hq
      simp only [VR] at hx hy; subst hx; subst hy
      have := hC.facts _ _ _ _ (findFact_mem h2)
      simp only [semC, E.den] at this
      simp only [Instr.sameNow, if_true, this]
  · cases h
    cases q with
    | false => cases ho
    | true =>
      simp only [keyD, cond_true] at hq; subst hq
      simp only [VR] at hx hy
      obtain ⟨s, rfl, rfl⟩ := hx
      obtain ⟨s', rfl, rfl⟩ := hy
      simp only [Instr.sameNow, beqBytes_eq]
      congr 1
      rw [Bool.eq_iff_iff]
      simp only [beq_iff_eq]
      rw [Go.MapKept.bytes_beq]
      constructor
      · intro e; rw [e]
      · intro e; cases s; cases s'; simp only [ByteArray.mk.injEq]; exact Array.ext' e
  · cases h
theorem findEnt_ok (hC : C.Holds ν) {q : Bool} {d : TypeDesc} (hq : keyD q d) {x z : LV} {u : Value} (hx : VR ν ι x u) (ho : keyOk q x = true) {ok : Bool} {k : LV → Option R} {r : R} :
    ∀ {es : List (LV × LV × Nat)} {ms : List MapEntry} {i : Nat}, ERs ν ι es ms → findEnt C x z ok k es = some r →
      (Instr.findNow d u ms i = some none ∧ k (okV ok false z) = some r) ∨ ∃ j v lv, Instr.findNow d u ms i = some (some (j, v)) ∧ VR ν ι lv v ∧ k (okV ok true lv) = some r
  | [], ms, i, he, hk => by cases he; exact .inl ⟨rfl, hk⟩
  | (y, v, n) :: es, ms, i, he, hk => by
    obtain ⟨m, t, rfl, h1, h2, h3, h4⟩ := he
    simp only [findEnt] at hk
    split at hk
    · rename_i he
      have := keyEq_ok hC hq hx h1 ho he
      exact .inr ⟨i, m.val, v, by simp [Instr.findNow, this], h2, hk⟩
    · rename_i he
      have hs := keyEq_ok hC hq hx h1 ho he
      rcases findEnt_ok hC hq hx ho (i := i + 1) h4 hk with ⟨g1, g2⟩ | ⟨j, v', lv, g1, g2, g3⟩
      · exact .inl ⟨by simp [Instr.findNow, hs, g1], g2⟩
      · exact .inr ⟨j, v', lv, by simp [Instr.findNow, hs, g1], g2, g3⟩
    · cases hk
theorem okV_VR {ok b : Bool} {x : LV} {v : Value} (h : VR ν ι x v) : VR ν ι (okV ok b x) (if ok then .tuple #[v, .bool b] else v) := by
  cases ok with
  | false => exact h
  | true => show VR ν ι (.tup [x, .bool b]) (.tuple #[v, .bool b]); simp only [VR]; exact ⟨_, rfl, VRs_cons h (VRs_cons VR_bool VRs_nil)⟩
theorem withMap_ok (h : Rep ν base W σ ι w) {b : Nat} {k : List (LV × LV × Nat) → Nat → Option R} {r : R} (hk : withMap σ b k = some r) :
    ∃ es c, σ.hp.get b = some (.map es c) ∧ k es c = some r := by
  unfold withMap at hk
  split at hk
  · rename_i es c e; exact ⟨es, c, e, hk⟩
  · cases hk
theorem rLookup_ok (H : Rep ν base W σ ι w) (hC : C.Holds ν) {t kt e : Nat} {q : Bool} {z : LV} (hd : und P t = some (.map kt e)) (hq : isStrK P kt = some q) (hz : zeroOf P e = some z) {m i : LV} {u j : Value} {ok : Bool}
    {k : LV → Option R} {r : R} (hm : VR ν ι m u) (hi : VR ν ι i j) (hk : rLookup C σ q z ok m i k = some r) : PGood P ν ι w (Instr.lookup t u j ok) k r := by
  obtain ⟨d, hkd, hqd⟩ := isStrK_ok hq
  obtain ⟨zv, hz1, hz2, _⟩ := zero_run (P := P) (w := w) (ν := ν) (ι := ι) hz
  have hfind : ∀ (ms : List MapEntry) (a : Option (Nat × Value)), Instr.findNow d j ms 0 = some a → (Instr.findKey kt j ms).run P w = .ok a w := fun ms a h => by
    simp [Instr.findKey, und_run hkd, h]
  unfold rLookup at hk
  split at hk
  · simp only [VR] at hm; subst hm
    refine .of hk (okV_VR hz2) ?_
    simp only [Instr.lookup, Sem.run_bind, und_run hd, Result.andThen_ok, Sem.run_pure, checkKey_run hkd hqd, hfind [] none rfl, hz1]
  · rename_i r'
    simp only [VR] at hm
    obtain ⟨B, hB, rfl⟩ := hm
    obtain ⟨es, c, hb, hk⟩ := withMap_ok H hk
    obtain ⟨ho, hk⟩ := cond_some hk
    obtain ⟨B', ms, hB', _, hg, he, _⟩ := H.obj _ _ hb
    rw [hB] at hB'; cases hB'
    have hgo := getObj_run (P := P) hg (fun _ _ _ => by simp)
    rcases findEnt_ok hC hqd hi ho (i := 0) he hk with ⟨g1, g2⟩ | ⟨jj, v, lv, g1, g2, g3⟩
    · refine .of g2 (okV_VR hz2) ?_
      simp only [Instr.lookup, Sem.run_bind, und_run hd, Result.andThen_ok, hgo, Sem.run_pure, checkKey_run hkd hqd, hfind _ none g1, hz1]
    · refine .of g3 (okV_VR g2) ?_
      simp only [Instr.lookup, Sem.run_bind, und_run hd, Result.andThen_ok, hgo, Sem.run_pure, checkKey_run hkd hqd, hfind _ _ g1]
  · cases hk
theorem rExtract_ok {i : Nat} {x : LV} {v : Value} {k : LV → Option R} {r : R} (hx : VR ν ι x v) (hk : rExtract i x k = some r) : PGood P ν ι w (Instr.extract v i) k r := by
  unfold rExtract at hk
  split at hk
  · simp only [VR] at hx
    obtain ⟨vs, rfl, hv⟩ := hx
    obtain ⟨h1, hk⟩ := cond_some hk
    rw [natBlt, lenL_eq] at h1
    rw [nth_lt h1] at hk
    obtain ⟨u, hu, hvu⟩ := hv.get i h1
    refine .of hk hvu ?_
    simp only [Array.getElem?_toList] at hu
    simp [Instr.extract, hu]
  · cases hk
theorem stamp_ok {b : Nat} {k : LV → Option R} {r : R} : ∀ {es : List (LV × LV × Nat)} {ms : List MapEntry}, ERs ν ι es ms → stamp b k es = some r →
    ∃ m x v, ms.find? (·.born == b) = some m ∧ VR ν ι x m.key ∧ VR ν ι v m.val ∧ k (.tup [x, v]) = some r
  | [], _, _, h => by cases h
  | (x, v, n) :: es, ms, he, hk => by
    obtain ⟨m, t, rfl, h1, h2, h3, h4⟩ := he
    simp only [stamp] at hk
    simp only at h3
    cases e : Nat.beq n b with
    | true =>
      rw [e, cond_true] at hk
      have := natBeq.1 e; subst this
      exact ⟨m, x, v, by simp [h3], h1, h2, hk⟩
    | false =>
      rw [e, cond_false] at hk
      obtain ⟨m', x', v', g1, g2, g3, g4⟩ := stamp_ok h4 hk
      refine ⟨m', x', v', ?_, g2, g3, g4⟩
      have : (m.born == b) = false := by
        rw [h3]
        cases e2 : n == b with
        | false => rfl
        | true => rw [beq_iff_eq] at e2; subst e2; rw [Nat.beq_refl] at e; cases e
      rw [List.find?_cons, this]; exact g1
theorem rEntry_ok (H : Rep ν base W σ ι w) {x : LV} {v : Value} {k : LV → Option R} {r : R} (hx : VR ν ι x v) (hk : rEntry σ x k = some r) : PGood P ν ι w (Instr.entry v) k r := by
  unfold rEntry at hk
  split at hk
  · rename_i r0
    split at hk
    · rename_i m since seen stepped hb
      obtain ⟨es, c, hb', hk⟩ := withMap_ok H hk
      split at hk
      · rename_i b hl
        obtain ⟨h1, hk'⟩ := cond_some hk
        clear hk
        have := natBeq.1 h1; subst this
        simp only [VR] at hx
        obtain ⟨B, hB, rfl⟩ := hx
        obtain ⟨B1, m', hB1, h2, _, h3, h4⟩ := H.obj _ _ hb
        rw [hB] at hB1; cases hB1
        obtain ⟨B2, hB2, rfl⟩ := h4
        obtain ⟨B3, ms, hB3, _, hg, he, _⟩ := H.obj _ _ hb'
        rw [hB2] at hB3; cases hB3
        have hgo := getObj_run (P := P) h3 (fun _ _ _ => by simp)
        have hgo2 := getObj_run (P := P) hg (fun _ _ _ => by simp)
        obtain ⟨mm, kx, kv, g1, g2, g3, g4⟩ := stamp_ok he hk'
        refine .of (u := .tuple #[mm.key, mm.val]) g4 ?_ ?_
        · simp only [VR]; exact ⟨_, rfl, VRs_cons g2 (VRs_cons g3 VRs_nil)⟩
        · rw [h2]
          have hback : seen.toArray.back? = some b := by simpa [List.getLast?_eq_getElem?] using hl
          have hfind : ms.find? (fun e => e.born == b) = some mm := by rw [← Array.find?_toList]; exact g1
          simp [Instr.entry, hgo, hback, hgo2, hfind]
      · cases hk
    · cases hk
  · cases hk

/-! ## conversions, lengths -/
theorem rConvI_ok (hC : C.Holds ν) {s d : Nat} {k0 kd : IntKind} (hs : und P s = some (.int k0)) (hd : und P d = some (.int kd)) {x : LV} {v : Value} {k : LV → Option R} {r : R} (hx : VR ν ι x v)
    (hk : rConvI C kd x k = some r) : PGood P ν ι w (convert s d v) k r := by
  unfold rConvI at hk
  split at hk
  · simp only [VR] at hx; subst hx
    exact .of hk VR_int (by simp [convert, und_run hs, und_run hd, Conv.intToInt, wrap_eq])
  · simp only [VR] at hx; subst hx
    exact .of hk (mkSym_VR hC _ _) (by simp [convert, und_run hs, und_run hd, Conv.intToInt, E.den])
  · cases hk
theorem rConvSS_ok {s d : Nat} (hs : und P s = some .string) (hd : und P d = some .string) {x : LV} {v : Value} {k : LV → Option R} {r : R} (hx : VR ν ι x v)
    (hk : rConvSS x k = some r) : PGood P ν ι w (convert s d v) k r := by
  unfold rConvSS at hk
  split at hk
  · have hx' := hx
    simp only [VR] at hx'
    obtain ⟨b, rfl, rfl⟩ := hx'
    exact .of hk hx (by simp [convert, und_run hs, und_run hd])
  · cases hk
theorem allBytes_ok : ∀ {l : List LV} {vs : List Value} {k : List Nat → Option R} {r : R}, VRs ν ι l vs → allBytes k l = some r →
    ∃ bs : List UInt8, vs = bs.map (fun b => Value.int .u8 (Int.ofNat b.toNat)) ∧ k (bs.map UInt8.toNat) = some r
  | [], vs, k, r, h, hk => by rw [VRs_nil_iff] at h; subst h; exact ⟨[], rfl, hk⟩
  | x :: l, [], k, r, h, _ => (VRs_not h).elim
  | x :: l, v :: vs, k, r, h, hk => by
    rw [VRs_cons_iff] at h
    cases x with
    | int kd n =>
      cases kd with
      | u8 =>
        cases n with
        | ofNat n =>
          simp only [allBytes] at hk
          obtain ⟨h1, hk⟩ := cond_some hk
          rw [natBlt] at h1
          obtain ⟨bs, h2, h3⟩ := allBytes_ok h.2 hk
          have hv := h.1
          simp only [VR] at hv; subst hv; subst h2
          have hn : (UInt8.ofNat n).toNat = n := by simp [UInt8.toNat_ofNat']; omega
          refine ⟨UInt8.ofNat n :: bs, by simp [hn], by simpa [hn] using h3⟩
        | negSucc n => simp only [allBytes] at hk; cases hk
      | _ => simp only [allBytes] at hk; cases hk
    | _ => simp only [allBytes] at hk; cases hk
theorem push_fold (bs : List UInt8) : ∀ s : ByteArray, (((bs.map fun b => (Int.ofNat b.toNat)).foldl (fun r n => r.push (UInt8.ofNat n.toNat)) s).data.toList) = s.data.toList ++ bs := by
  induction bs with
  | nil => intro s; simp
  | cons b bs ih => intro s; simp only [List.map_cons, List.foldl_cons]; rw [ih]; simp
theorem rConvS_ok (H : Rep ν base W σ ι w) {s d e : Nat} (hs : und P s = some (.slice e)) (he : und P e = some (.int .u8)) (hd : und P d = some .string) {x : LV} {v : Value} {k : LV → Option R} {r : R} (hx : VR ν ι x v)
    (hk : rConvS σ x k = some r) : PGood P ν ι w (convert s d v) k r := by
  have hcv : ∀ a n c, (convert s d (.slice a n c)).run P w = (Conv.bytesToString (.slice a n c)).run P w := by
    intro a n c; simp [convert, und_run hs, und_run hd, und_run he]
  unfold rConvS at hk
  split at hk
  · simp only [VR] at hx; subst hx
    refine .of (u := .string .empty) hk ?_ ?_
    · simp only [VR]; exact ⟨_, rfl, rfl⟩
    · rw [hcv]; simp [Conv.bytesToString]
  · rename_i s' b o len cap
    obtain ⟨B, cs, us, hB, hk, hv, ha, hl, hr, _⟩ := ldCells_ok (P := P) H hk
    obtain ⟨bs, rfl, hk⟩ := allBytes_ok hv hk
    simp only [VR] at hx
    obtain ⟨B', a, cc, hB', rfl, hlc, h0, hsp, hadr, _⟩ := hx
    rw [hB] at hB'; cases hB'
    have hload : (loadCells a len).run P w = .ok ((bs.map fun b => Int.ofNat b.toNat).map (Value.int .u8)).toArray w := by
      rcases hadr with h | rfl
      · have : len = 0 := by omega
        subst this
        have : bs = [] := by simpa using hl
        subst this
        rfl
      · rw [hr]; simp
    refine .of (u := .string _) hk ?_ (by rw [hcv]; exact run_bytesToString w a len cc _ hload)
    simp only [VR]
    refine ⟨_, rfl, ?_⟩
    rw [push_fold]; simp
  · cases hk
theorem rMx_max {ats : Array TypeId} {ty : TypeId} {x y : LV} {u v : Value} {k : LV → Option R} {r : R} (hx : VR ν ι x u) (hy : VR ν ι y v) (hk : rMx false x y k = some r) :
    PGood P ν ι w (Builtin.max_ ats ty #[u, v]) k r := by
  unfold rMx at hk
  split at hk
  · simp only [VR] at hx hy
    subst hx; subst hy
    rename_i kd a kd' b
    refine .of hk VR_int ?_
    cases e : intLe b a with
    | true => rw [intLe_iff] at e; simp only [cond_true, cond_false, Builtin.max_, Builtin.max2, List.foldlM_cons, List.foldlM_nil, if_neg (show ¬ b > a by omega)]; rfl
    | false =>
      have : ¬ b ≤ a := fun q => by rw [intLe_iff.2 q] at e; cases e
      simp only [cond_false, Builtin.max_, Builtin.max2, List.foldlM_cons, List.foldlM_nil, if_pos (show b > a by omega)]; rfl
  · cases hk
theorem rMx_min {ats : Array TypeId} {ty : TypeId} {x y : LV} {u v : Value} {k : LV → Option R} {r : R} (hx : VR ν ι x u) (hy : VR ν ι y v) (hk : rMx true x y k = some r) :
    PGood P ν ι w (Builtin.min_ ats ty #[u, v]) k r := by
  unfold rMx at hk
  split at hk
  · simp only [VR] at hx hy
    subst hx; subst hy
    rename_i kd a kd' b
    refine .of hk VR_int ?_
    cases e : intLe a b with
    | true => rw [intLe_iff] at e; simp only [cond_true, Builtin.min_, Builtin.min2, List.foldlM_cons, List.foldlM_nil, if_neg (show ¬ b < a by omega)]; rfl
    | false =>
      have : ¬ a ≤ b := fun q => by rw [intLe_iff.2 q] at e; cases e
      simp only [cond_true, cond_false, Builtin.min_, Builtin.min2, List.foldlM_cons, List.foldlM_nil, if_pos (show b < a by omega)]; rfl
  · cases hk
theorem rLen_ok (H : Rep ν base W σ ι w) {t ty : Nat} {d : TypeDesc} {q : Nat} (hd : und P t = some d) (hq : (q = 0 ∧ d = .string) ∨ (q = 1 ∧ ∃ e, d = .slice e) ∨ (q = 2 ∧ ∃ a b, d = .map a b)) {x : LV} {v : Value}
    {ats : Array TypeId} (hat : ats[0]? = some t) {k : LV → Option R} {r : R} (hx : VR ν ι x v) (hk : rLen σ q x k = some r) : PGood P ν ι w (Builtin.len_ ats ty #[v]) k r := by
  unfold rLen at hk
  split at hk
  · obtain ⟨h1, hk⟩ := cond_some hk
    have := natBeq.1 h1; subst this
    obtain ⟨a, b, rfl⟩ : ∃ a b, d = .map a b := by simpa using hq
    simp only [VR] at hx; subst hx
    exact .of hk VR_int (by simp [Builtin.len_, hat, und_run hd, goInt])
  · obtain ⟨h1, hk⟩ := cond_some hk
    have := natBeq.1 h1; subst this
    obtain ⟨a, b, rfl⟩ : ∃ a b, d = .map a b := by simpa using hq
    simp only [VR] at hx
    obtain ⟨B, hB, rfl⟩ := hx
    obtain ⟨es, c, hb, hk⟩ := withMap_ok H hk
    obtain ⟨B', ms, hB', _, hg, he, _⟩ := H.obj _ _ hb
    rw [hB] at hB'; cases hB'
    have hgo := getObj_run (P := P) hg (fun _ _ _ => by simp)
    have hlen : ∀ (es : List (LV × LV × Nat)) (ms : List MapEntry), ERs ν ι es ms → es.length = ms.length := by
      intro es
      induction es with
      | nil => intro ms h; cases h; rfl
      | cons e es ih => intro ms h; obtain ⟨m, t, rfl, _, _, _, h4⟩ := h; simp [ih _ h4]
    have := hlen _ _ he
    exact .of hk VR_int (by simp [Builtin.len_, hat, und_run hd, goInt, hgo, this])
  · obtain ⟨h1, hk⟩ := cond_some hk
    have := natBeq.1 h1; subst this
    obtain rfl : d = .string := by simpa using hq
    simp only [VR] at hx
    obtain ⟨s, rfl, rfl⟩ := hx
    exact .of hk VR_int (by simp [Builtin.len_, hat, und_run hd, goInt])
  · obtain ⟨h1, hk⟩ := cond_some hk
    have := natBeq.1 h1; subst this
    obtain ⟨e, rfl⟩ : ∃ e, d = .slice e := by simpa using hq
    simp only [VR] at hx
    obtain ⟨_, _, _, _, rfl, _⟩ := hx
    exact .of hk VR_int (by simp [Builtin.len_, hat, und_run hd, goInt])
  · obtain ⟨h1, hk⟩ := cond_some hk
    have := natBeq.1 h1; subst this
    obtain ⟨e, rfl⟩ : ∃ e, d = .slice e := by simpa using hq
    simp only [VR] at hx; subst hx
    exact .of hk VR_int (by simp [Builtin.len_, hat, und_run hd, goInt])
  · cases hk
end
end Go.Eng
