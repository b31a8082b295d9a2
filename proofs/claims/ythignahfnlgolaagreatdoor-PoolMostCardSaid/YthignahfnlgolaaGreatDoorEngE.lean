/- The symbolic executor's operations that write follow the model's: new blocks, stores, maps, rounds over maps. Conditions: none. -/
import Derived.Test.YthignahfnlgolaaGreatDoorEngP
namespace Go.Eng
section
variable {ν : Nat → Int} {base : Nat} {W w : World} {σ : St} {ι : Inj} {R : Type} {P : Program} {C : Cfg}

/-- what holds behind an operation: a value, and a memory, that the executor goes on with -/
def Post (ν : Nat → Int) (base : Nat) (W : World) (ι : Inj) (w : World) (k : K R) (r : R) (u : Value) (w' : World) : Prop :=
  ∃ x σ' ι', Step ι w ι' w' ∧ Rep ν base W σ' ι' w' ∧ VR ν ι' x u ∧ k x σ' = some r
def ERes (P : Program) (ν : Nat → Int) (base : Nat) (W : World) (ι : Inj) (w : World) (k : K R) (r : R) : Result Next → Prop
  | .ok (.value u) w' => Post ν base W ι w k r u w'
  | .ok .skip w' => Post ν base W ι w k r undef w'
  | .ok (.enter f args) w' => Calls P f args w' (fun e w'' => ∃ u, e = .returned u ∧ Post ν base W ι w k r u w'')
  | _ => False
def VGood (P : Program) (ν : Nat → Int) (base : Nat) (W : World) (ι : Inj) (w : World) (s : Sem Value) (k : K R) (r : R) : Prop :=
  ∃ u w', s.run P w = .ok u w' ∧ Post ν base W ι w k r u w'
def UGood (P : Program) (ν : Nat → Int) (base : Nat) (W : World) (ι : Inj) (w : World) (s : Sem Unit) (k : K R) (r : R) : Prop :=
  ∃ w', s.run P w = .ok () w' ∧ Post ν base W ι w k r undef w'
theorem VGood.res {s : Sem Value} {k : K R} {r : R} (h : VGood P ν base W ι w s k r) : ERes P ν base W ι w k r ((do pure (.value (← s)) : Sem Next).run P w) := by
  obtain ⟨u, w', h1, h2⟩ := h
  simp only [Sem.run_bind, h1, Result.andThen_ok]
  exact h2
theorem UGood.res {s : Sem Unit} {k : K R} {r : R} (h : UGood P ν base W ι w s k r) : ERes P ν base W ι w k r ((do s; pure .skip : Sem Next).run P w) := by
  obtain ⟨w', h1, h2⟩ := h
  simp only [Sem.run_bind, h1, Result.andThen_ok]
  exact h2
theorem VR_undef : VR ν ι (.tup []) undef := by simp only [VR]; exact ⟨#[], rfl, VRs_nil⟩

/-! ## new blocks -/
theorem newRow_run (e : TypeId) (arr : Array Value) : (Go.newRow e arr).run P w = .ok ⟨w.heap.size, 0, none⟩ (w.alloc (.cells arr e)) := by
  simp only [Go.newRow, Sem.run_bind, run_newObj, Result.andThen_ok]; rfl
theorem rNew_ok (H : Rep ν base W σ ι w) {z : LV} {v : Value} {t : TypeId} {k : K R} {r : R} (hz : VR ν ι z v) (hk : rNew σ z k = some r) :
    VGood P ν base W ι w (do pure (.pointer (some (← newVar t v)))) k r := by
  unfold rNew at hk
  obtain ⟨hs, hk⟩ := cond_some hk
  obtain ⟨hc, ha⟩ := hz.cells hs
  have hl := hc.length
  simp only [Array.length_toList] at hl
  obtain ⟨σ', h1, h2, h3⟩ := newRow_ok H hk ha v.cells t (by omega) (by rw [List.take_of_length_le (by simp; omega)]; exact hc)
  refine ⟨_, _, by simp only [newVar, Sem.run_bind, newRow_run, Result.andThen_ok]; rfl, _, σ', _, h3, h2, ?_, h1⟩
  simp only [VR]
  exact ⟨_, Inj.put_same .., rfl⟩
theorem rep_VRs {z : List LV} {zs : List Value} (h : VRs ν ι z zs) : ∀ n, VRs ν ι (rep z n) ((List.range (n * zs.length)).map fun i => (zs.toArray)[i % zs.toArray.size]!)
  | 0 => by simpa [rep] using VRs_nil
  | n + 1 => by
    have ih := rep_VRs h n
    have e : (List.range ((n + 1) * zs.length)).map (fun i => (zs.toArray)[i % zs.toArray.size]!) = zs ++ (List.range (n * zs.length)).map fun i => (zs.toArray)[i % zs.toArray.size]! := by
      rw [show (n + 1) * zs.length = zs.length + n * zs.length by rw [Nat.add_mul, Nat.one_mul, Nat.add_comm], List.range_add, List.map_append, List.map_map]
      congr 1
      · apply List.ext_getElem?
        intro j
        by_cases hj : j < zs.length
        · simp [hj, Nat.mod_eq_of_lt hj]
        · simp [hj]
      · apply List.map_congr_left
        intro i _
        simp
    rw [e]
    exact h.append ih
theorem zeros_eq (zs : Array Value) (n : Nat) : ((Array.range n).map fun i => zs[i % zs.size]!).toList = (List.range n).map fun i => zs.toList.toArray[i % zs.toList.toArray.size]! := by
  simp
theorem rep_length (l : List LV) : ∀ n, (rep l n).length = n * l.length
  | 0 => by simp [rep]
  | n + 1 => by simp [rep, rep_length l n, Nat.add_mul, Nat.add_comm]
theorem mkslice_ok (H : Rep ν base W σ ι w) {loc : List LV} {fr : Fr} {env : Env} {ρ : Operand → Value} (HX : ∀ x, VR ν ι (ev loc fr (cX env x)) (ρ x)) {t e len : Nat} {parts : Array (Nat × Operand)} {z : LV} {ps : List (Nat × Nat × X)}
    (hd : und P t = some (.slice e)) (hz : zeroOf P e = some z) (hne : sizeOf P e ≠ 0) (hzl : z.cells.length = sizeOf P e) (hlim : len * sizeOf P e ≤ 16777216)
    (hps : cParts env (fun i => some (i * sizeOf P e, sizeOf P e)) parts.toList = some ps) {k : K R} {r : R}
    (hk : fillP loc fr (fun l => newRow σ l fun b σ => k (.slice (sizeOf P e) b 0 len (some len)) σ) ps (rep z.cells len) = some r) :
    VGood P ν base W ι w (Instr.buildSlice t len (parts.map fun (i, x) => (i, ρ x))) k r := by
  obtain ⟨v, h1, h2, h3, h4⟩ := zero_run (P := P) (w := w) (ν := ν) (ι := ι) hz
  have hvl : v.cells.toList.length = sizeOf P e := by rw [← h3.length]; exact hzl
  have hrep : VRs ν ι (rep z.cells len) ((Array.range (len * sizeOf P e)).map fun i => v.cells[i % v.cells.size]!).toList := by
    rw [zeros_eq, ← hvl]; exact rep_VRs h3 len
  obtain ⟨cs', vs', g1, g2, g3, g4, g5⟩ := fill_ok HX (fun i q h => h) hps hrep (atoms_rep h4 len) hk
  have hl := g3.length
  simp only [Array.length_toList] at hl
  obtain ⟨σ', q1, q2, q3⟩ := newRow_ok H g5 g4 vs' e (by omega) (by rw [List.take_of_length_le (by simp; omega)]; exact g3)
  have hrun : (Instr.buildSlice t len (parts.map fun (i, x) => (i, ρ x))).run P w = .ok (.slice (some ⟨w.heap.size, 0, none⟩) len len) (w.alloc (.cells vs' e)) := by
    simp only [Instr.buildSlice, Sem.run_bind, und_run hd, Result.andThen_ok, size_run hne]
    rw [if_neg (by omega)]
    skip
    by_cases h0 : len * sizeOf P e = 0
    · have hlen : len = 0 := (Nat.mul_eq_zero.1 h0).resolve_right hne
      subst hlen
      simp only [Nat.zero_mul] at g1 ⊢
      simp only [if_true, pure_bind, map_parts]
      have : (Array.map (fun x => (#[] : Array Value)[x % (#[] : Array Value).size]!) (Array.range 0)) = (Array.map (fun i => v.cells[i % v.cells.size]!) (Array.range 0)) := by simp
      rw [this, g1]
      simp only [Sem.run_bind, newRow_run, Result.andThen_ok, Sem.run_pure]
    · rw [if_neg h0]
      simp only [Sem.run_bind, h1, Result.andThen_ok, Sem.run_pure, map_parts]
      rw [g1]
      simp only [Sem.run_bind, newRow_run, Result.andThen_ok, Sem.run_pure]
  refine ⟨_, _, hrun, _, σ', _, q3, q2, ?_, q1⟩
  simp only [VR]
  exact ⟨_, _, _, Inj.put_same .., rfl, Nat.le_refl _, by omega, rfl, .inr (by simp), rfl⟩

/-! ## stores -/
theorem rStore_ok (H : Rep ν base W σ ι w) {t : TypeId} {i : TypeInfo} (hi : P.info? t = some i) {a x : LV} {u v : Value} {k : K R} {r : R} (ha : VR ν ι a u) (hx : VR ν ι x v)
    (hk : rStore σ i.size a x k = some r) : UGood P ν base W ι w (Instr.storeAt t u v) k r := by
  unfold rStore at hk
  split at hk
  · rename_i b o
    obtain ⟨h1, hk⟩ := cond_some hk
    simp only [Bool.and_eq_true, natBeq, lenL_eq] at h1
    obtain ⟨hc, hat⟩ := hx.cells h1.1
    have hl := hc.length
    simp only [Array.length_toList] at hl
    obtain ⟨B, σ', w', hB, hk, hr, hrep, hst⟩ := stCells_ok (P := P) H hk hat hc
    simp only [VR] at ha
    obtain ⟨B', hB', rfl⟩ := ha
    rw [hB] at hB'; cases hB'
    refine ⟨w', ?_, _, σ', ι, hst, hrep, VR_undef, hk⟩
    simp only [Instr.storeAt, Instr.sureAddr, Sem.run_bind, Sem.run_pure, Result.andThen_ok, storeVar, size_run' hi]
    have : sizeOf P t = i.size := by simp [sizeOf, hi]
    rw [this, if_neg (by omega)]
    simp only [Sem.run_bind, Sem.run_pure, Result.andThen_ok, hr]
  · cases hk
theorem rClear_ok (H : Rep ν base W σ ι w) {t e : Nat} {z : LV} (hd : und P t = some (.slice e)) (hz : zeroOf P e = some z) {ats : Array TypeId} (hat : ats[0]? = some t) {ty : TypeId} {x : LV} {v : Value} {k : K R} {r : R}
    (hx : VR ν ι x v) (hk : rClear σ z.cells x k = some r) : VGood P ν base W ι w (Builtin.clear_ ats ty #[v]) k r := by
  unfold rClear at hk
  split at hk
  · simp only [VR] at hx; subst hx
    exact ⟨undef, w, by simp [Builtin.clear_, hat, und_run hd, undef], _, σ, ι, .refl _ _, H, VR_undef, hk⟩
  · rename_i s b o n cap
    obtain ⟨h1, hk⟩ := cond_some hk
    rw [natBeq, lenL_eq] at h1
    simp only [VR] at hx
    obtain ⟨B, a, cc, hB, rfl, hlc, h0, hsp, hadr, _⟩ := hx
    cases hn : Nat.beq n 0 with
    | true =>
      rw [hn, cond_true] at hk
      have := natBeq.1 hn; subst this
      exact ⟨undef, w, by simp [Builtin.clear_, hat, und_run hd, undef], _, σ, ι, .refl _ _, H, VR_undef, by assumption⟩
    | false =>
      rw [hn, cond_false] at hk
      have hn0 : n ≠ 0 := fun q => by rw [q] at hn; cases hn
      obtain ⟨zv, h2, h3, h4, h5⟩ := zero_run (P := P) (w := w) (ν := ν) (ι := ι) hz
      have hrep : VRs ν ι (rep z.cells n) (Builtin.zeroCells zv.cells n).toList := by
        have := rep_VRs h4 n
        rw [Builtin.zeroCells, zeros_eq]; simpa using this
      obtain ⟨B', σ', w', hB', hk, hr, hrp, hst⟩ := stCells_ok (P := P) H hk (atoms_rep h5 n) hrep
      rw [hB] at hB'; cases hB'
      have := hadr.resolve_left (by omega)
      subst this
      refine ⟨undef, w', ?_, _, σ', ι, hst, hrp, VR_undef, hk⟩
      obtain ⟨m, rfl⟩ := Nat.exists_eq_succ_of_ne_zero hn0
      simp [Builtin.clear_, hat, und_run hd, h2, hr, undef]
  · cases hk

/-! ## maps -/
theorem mkmap_ok (H : Rep ν base W σ ι w) {t : TypeId} {k : K R} {r : R} (hk : alloc σ (.map [] 0) (fun b σ => k (.map b) σ) = some r) : VGood P ν base W ι w (Instr.makeMap t none) k r := by
  obtain ⟨σ', h1, h2, h3⟩ := alloc_ok H hk (.map #[] 0) ⟨w.heap.size, 0, 0, 0⟩ rfl
    ⟨_, #[], Inj.put_same .., H.hbase, by show (w.heap.push _)[w.heap.size]? = _; simp, rfl, by simp⟩ (fun _ _ _ q => by cases q)
  refine ⟨.map (some w.heap.size), w.alloc (.map #[] 0), by simp [Instr.makeMap], _, σ', _, h3, h2, ?_, h1⟩
  simp only [VR]; exact ⟨_, Inj.put_same .., rfl⟩
theorem setObj_run {r : Nat} {o o' : Obj} (hb : w.heap[r]? = some o) (hc : ∀ c e f, o ≠ .cells c e f) : (setObj r o').run P w = .ok () { w with heap := w.heap.setIfInBounds r o' } := by
  cases o <;> simp_all [setObj, Sem.run]
theorem Chg.setObj {r : Nat} {o o' : Obj} (hb : w.heap[r]? = some o) : Chg w { w with heap := w.heap.setIfInBounds r o' } r o' := by
  have hlt : r < w.heap.size := (Array.getElem?_eq_some_iff.1 hb).1
  exact ⟨rfl, rfl, rfl, by simp, by simp [hlt], fun k hk => by simp [Ne.symm hk]⟩
theorem alone_not_cells (H : Rep ν base W σ ι w) {b : Nat} {B : Blk} {o : LO} (hb : σ.hp.get b = some o) (hB : ι b = some B) (ho : ∀ cs c s, o ≠ .cells cs c s) :
    ∀ b' o' B', b' ≠ b → σ.hp.get b' = some o' → ι b' = some B' → B'.blk ≠ B.blk := by
  intro b' o' B' hne hb' hB' heq
  have := H.apart b b' _ _ B B' (Ne.symm hne) hb hb' hB hB' heq.symm
  cases o with
  | cells cs c s => exact ho _ _ _ rfl
  | map => cases o' <;> exact this
  | mit => cases o' <;> exact this
theorem setMap_ok (H : Rep ν base W σ ι w) {b : Nat} {es es' : List (LV × LV × Nat)} {c c' : Nat} (hb : σ.hp.get b = some (.map es c)) {B : Blk} (hB : ι b = some B) (ms' : Array MapEntry)
    (he : ERs ν ι es' ms'.toList) (hlt : ∀ e ∈ es', e.2.2 < c') :
    Rep ν base W ⟨σ.hp.set b (some (.map es' c')), σ.nx⟩ ι { w with heap := w.heap.setIfInBounds B.blk (.map ms' c') } ∧ Step ι w ι { w with heap := w.heap.setIfInBounds B.blk (.map ms' c') } := by
  obtain ⟨B', ms, hB', hbase, hg, _⟩ := H.obj _ _ hb
  rw [hB] at hB'; cases hB'
  exact H.change hB hbase (alone_not_cells H hb hB (fun _ _ _ q => by cases q)) (Chg.setObj hg) ⟨B, ms', hB, hbase, (Chg.setObj hg).at_, he, hlt⟩ (fun _ _ _ q => by cases q)
theorem sameBits_of {q : Bool} {d : TypeDesc} (hq : keyD q d) {u v : Value} (h : Instr.sameNow d u v = some true) : Instr.sameBits 10000 v u = true := by
  cases q with
  | true =>
    simp only [keyD, cond_true] at hq; subst hq
    cases u <;> cases v <;> simp only [Instr.sameNow] at h <;> try (cases h; done)
    rename_i a b
    have h := Option.some.inj h
    rw [Go.MapKept.bytes_beq] at h; subst h
    show (_ == _) = true
    rw [Go.MapKept.bytes_beq]
  | false =>
    obtain ⟨k, rfl⟩ := hq
    cases u <;> cases v <;> simp only [Instr.sameNow] at h <;> try (cases h; done)
    split at h
    · rename_i e; subst e
      have h := Option.some.inj h
      rw [beq_iff_eq] at h; subst h
      show (_ == _ && _ == _) = true
      simp
    · cases h
theorem isKey_ok {q : Bool} {x : LV} (h : isKey q x = true) : keyOk q x = true := by
  cases x <;> first | exact h | (simp only [isKey] at h; cases h)
theorem setEnt_ok (hC : C.Holds ν) {q : Bool} {d : TypeDesc} (hq : keyD q d) {x v : LV} {u vu : Value} (hx : VR ν ι x u) (hv : VR ν ι v vu) (ho : keyOk q x = true) {kn : Option R} {r : R} {c : Nat} :
    ∀ {es : List (LV × LV × Nat)} {ms : List MapEntry} {i : Nat} {k : List (LV × LV × Nat) → Option R}, ERs ν ι es ms → (∀ e ∈ es, e.2.2 < c) → setEnt C x v k kn es = some r →
      (Instr.findNow d u ms i = some none ∧ kn = some r) ∨
      ∃ j vv es' mo, Instr.findNow d u ms i = some (some (i + j, vv)) ∧ ms[j]? = some mo ∧ Instr.sameBits 10000 mo.key u = true ∧
        ERs ν ι es' (ms.modify j fun e => { e with key := u, val := vu }) ∧ (∀ e ∈ es', e.2.2 < c) ∧ k es' = some r
  | [], ms, i, k, he, _, hk => by cases he; exact .inl ⟨rfl, hk⟩
  | (y, z, n) :: es, ms, i, k, he, hlt, hk => by
    obtain ⟨m, t, rfl, h1, h2, h3, h4⟩ := he
    simp only [setEnt] at hk
    split at hk
    · rename_i hke
      have hs := keyEq_ok hC hq hx h1 ho hke
      refine .inr ⟨0, m.val, _, m, by simp [Instr.findNow, hs], rfl, sameBits_of hq hs, ?_, ?_, hk⟩
      · simp only [List.modify_zero_cons]
        exact ⟨_, t, rfl, hx, hv, h3, h4⟩
      · intro e he
        cases he with
        | head => exact hlt (y, z, n) (List.mem_cons_self ..)
        | tail _ he => exact hlt e (List.mem_cons_of_mem _ he)
    · rename_i hke
      have hs := keyEq_ok hC hq hx h1 ho hke
      rcases setEnt_ok hC hq hx hv ho (i := i + 1) h4 (fun e he => hlt e (List.mem_cons_of_mem _ he)) hk with ⟨g1, g2⟩ | ⟨j, vv, es', mo, g1, g2, g3, g4, g5, g6⟩
      · exact .inl ⟨by simp [Instr.findNow, hs, g1], g2⟩
      · refine .inr ⟨j + 1, vv, _, mo, by simp [Instr.findNow, hs, g1]; omega, by simpa using g2, g3, ?_, ?_, g6⟩
        · simp only [List.modify_succ_cons]
          exact ⟨m, _, rfl, h1, h2, h3, g4⟩
        · intro e he
          cases he with
          | head => exact hlt _ (List.mem_cons_self ..)
          | tail _ he => exact g5 e he
    · cases hk
theorem ERs.append {es fs : List (LV × LV × Nat)} {ms ns : List MapEntry} (h : ERs ν ι es ms) (k : ERs ν ι fs ns) : ERs ν ι (es ++ fs) (ms ++ ns) := by
  induction es generalizing ms with
  | nil => cases h; exact k
  | cons e es ih => obtain ⟨m, t, rfl, h1, h2, h3, h4⟩ := h; exact ⟨m, _, rfl, h1, h2, h3, ih h4⟩
theorem rMapset_ok (H : Rep ν base W σ ι w) (hC : C.Holds ν) {t kt e : Nat} {q : Bool} (hd : und P t = some (.map kt e)) (hq : isStrK P kt = some q) {m x v : LV} {mu u vu : Value}
    {k : K R} {r : R} (hm : VR ν ι m mu) (hx : VR ν ι x u) (hv : VR ν ι v vu) (hk : rMapset C σ q m x v k = some r) : UGood P ν base W ι w (Instr.mapUpdate t mu u vu) k r := by
  obtain ⟨d, hkd, hqd⟩ := isStrK_ok hq
  unfold rMapset at hk
  split at hk
  · rename_i r'
    simp only [VR] at hm
    obtain ⟨B, hB, rfl⟩ := hm
    obtain ⟨es, c, hb, hk⟩ := withMap_ok H hk
    obtain ⟨ho, hk⟩ := cond_some hk
    simp only [Bool.and_eq_true] at ho
    obtain ⟨B', ms, hB', _, hg, he, hlt⟩ := H.obj _ _ hb
    rw [hB] at hB'; cases hB'
    have hgo := getObj_run (P := P) hg (fun _ _ _ => by simp)
    have hset : ∀ o', (setObj B.blk o').run P w = .ok () { w with heap := w.heap.setIfInBounds B.blk o' } := fun o' => setObj_run hg (fun _ _ _ => by simp)
    have hfind : ∀ (a : Option (Nat × Value)), Instr.findNow d u ms.toList 0 = some a → (Instr.findKey kt u ms.toList).run P w = .ok a w := fun a h => by
      simp [Instr.findKey, und_run hkd, h]
    rcases setEnt_ok hC hqd hx hv (isKey_ok ho.1) (i := 0) he hlt hk with ⟨g1, g2⟩ | ⟨j, vv, es', mo, g1, g2, g3, g4, g5, g6⟩
    · have := setMap_ok H hb hB (ms.push { key := u, val := vu, born := c }) (es' := es ++ [(x, v, c)]) (c' := c + 1)
        (by simpa using he.append (fs := [(x, v, c)]) (ns := [{ key := u, val := vu, born := c }]) ⟨_, [], rfl, hx, hv, rfl, rfl⟩)
        (by intro e he'; simp only [List.mem_append, List.mem_singleton] at he'; rcases he' with he' | rfl
            · exact Nat.lt_succ_of_lt (hlt _ he')
            · exact Nat.lt_succ_self _)
      refine ⟨_, ?_, _, _, ι, this.2, this.1, VR_undef, g2⟩
      simp only [Instr.mapUpdate, Sem.run_bind, und_run hd, Result.andThen_ok, hgo, checkKey_run hkd hqd, hfind _ g1, hset]
    · rw [Nat.zero_add] at g1
      have := setMap_ok H hb hB (ms.modify j fun e => { e with key := u, val := vu }) (c' := c) (by rw [Array.toList_modify]; exact g4) g5
      refine ⟨_, ?_, _, _, ι, this.2, this.1, VR_undef, g6⟩
      have hj : ms[j]? = some mo := by simpa using g2
      simp only [Instr.mapUpdate, Sem.run_bind, und_run hd, Result.andThen_ok, hgo, checkKey_run hkd hqd, hfind _ g1, hj, Option.map_some, Option.getD_some, Instr.keyThatStays, g3, if_true, Sem.run_pure, hset]
  · cases hk
theorem delEnt_ok (hC : C.Holds ν) {q : Bool} {d : TypeDesc} (hq : keyD q d) {x : LV} {u : Value} (hx : VR ν ι x u) (ho : keyOk q x = true) {r : R} {c : Nat} :
    ∀ {es : List (LV × LV × Nat)} {ms : List MapEntry} {i : Nat} {k : List (LV × LV × Nat) → Option R}, ERs ν ι es ms → (∀ e ∈ es, e.2.2 < c) → delEnt C x k es = some r →
      ∃ a es', Instr.findNow d u ms i = some a ∧ (∀ e ∈ es', e.2.2 < c) ∧ k es' = some r ∧
        ((a = none ∧ ERs ν ι es' ms) ∨ ∃ j vv, a = some (i + j, vv) ∧ j < ms.length ∧ ERs ν ι es' (ms.eraseIdx j))
  | [], ms, i, k, he, hlt, hk => by cases he; exact ⟨none, [], rfl, hlt, hk, .inl ⟨rfl, rfl⟩⟩
  | (y, z, n) :: es, ms, i, k, he, hlt, hk => by
    obtain ⟨m, t, rfl, h1, h2, h3, h4⟩ := he
    simp only [delEnt] at hk
    split at hk
    · rename_i hke
      have hs := keyEq_ok hC hq hx h1 ho hke
      exact ⟨some (i, m.val), es, by simp [Instr.findNow, hs], fun e he => hlt e (List.mem_cons_of_mem _ he), hk, .inr ⟨0, m.val, rfl, by simp, h4⟩⟩
    · rename_i hke
      have hs := keyEq_ok hC hq hx h1 ho hke
      obtain ⟨a, es', g1, g2, g3, g4⟩ := delEnt_ok hC hq hx ho (i := i + 1) h4 (fun e he => hlt e (List.mem_cons_of_mem _ he)) hk
      refine ⟨a, _, by simp [Instr.findNow, hs, g1], ?_, g3, ?_⟩
      · intro e he
        cases he with
        | head => exact hlt _ (List.mem_cons_self ..)
        | tail _ he => exact g2 e he
      · rcases g4 with ⟨rfl, g4⟩ | ⟨j, vv, rfl, g5, g6⟩
        · exact .inl ⟨rfl, m, t, rfl, h1, h2, h3, g4⟩
        · exact .inr ⟨j + 1, vv, by congr 2; omega, by simpa using g5, by rw [List.eraseIdx_cons_succ]; exact ⟨m, _, rfl, h1, h2, h3, g6⟩⟩
    · cases hk
theorem rDel_ok (H : Rep ν base W σ ι w) (hC : C.Holds ν) {t kt e : Nat} {q : Bool} (hd : und P t = some (.map kt e)) (hq : isStrK P kt = some q) {ats : Array TypeId} (hat : ats[0]? = some t) {ty : TypeId} {m x : LV} {mu u : Value}
    {k : K R} {r : R} (hm : VR ν ι m mu) (hx : VR ν ι x u) (hk : rDel C σ q m x k = some r) : VGood P ν base W ι w (Builtin.delete_ ats ty #[mu, u]) k r := by
  obtain ⟨d, hkd, hqd⟩ := isStrK_ok hq
  unfold rDel at hk
  split at hk
  · simp only [VR] at hm; subst hm
    refine ⟨undef, w, ?_, _, σ, ι, .refl _ _, H, VR_undef, hk⟩
    simp [Builtin.delete_, hat, und_run hd, checkKey_run hkd hqd, undef]
  · rename_i r'
    simp only [VR] at hm
    obtain ⟨B, hB, rfl⟩ := hm
    obtain ⟨es, c, hb, hk⟩ := withMap_ok H hk
    obtain ⟨ho, hk⟩ := cond_some hk
    obtain ⟨B', ms, hB', _, hg, he, hlt⟩ := H.obj _ _ hb
    rw [hB] at hB'; cases hB'
    have hgo := getObj_run (P := P) hg (fun _ _ _ => by simp)
    have hset : ∀ o', (setObj B.blk o').run P w = .ok () { w with heap := w.heap.setIfInBounds B.blk o' } := fun o' => setObj_run hg (fun _ _ _ => by simp)
    have hfind : ∀ (a : Option (Nat × Value)), Instr.findNow d u ms.toList 0 = some a → (Instr.findKey kt u ms.toList).run P w = .ok a w := fun a h => by
      simp [Instr.findKey, und_run hkd, h]
    obtain ⟨a, es', g1, g2, g3, g4⟩ := delEnt_ok hC hqd hx ho (i := 0) he hlt hk
    rcases g4 with ⟨rfl, g4⟩ | ⟨j, vv, rfl, g5, g6⟩
    · have := setMap_ok H hb hB ms (c' := c) g4 g2
      refine ⟨undef, _, ?_, _, _, ι, this.2, this.1, VR_undef, g3⟩
      simp [Builtin.delete_, hat, und_run hd, hgo, checkKey_run hkd hqd, hfind _ g1, hset, undef]
    · rw [Nat.zero_add] at g1
      have hj : j < ms.size := by simpa using g5
      have he' : (ms.eraseIdxIfInBounds j).toList = ms.toList.eraseIdx j := by
        unfold Array.eraseIdxIfInBounds
        rw [dif_pos hj, Array.toList_eraseIdx]
      have := setMap_ok H hb hB (ms.eraseIdxIfInBounds j) (c' := c) (by rw [he']; exact g6) g2
      refine ⟨undef, _, ?_, _, _, ι, this.2, this.1, VR_undef, g3⟩
      simp [Builtin.delete_, hat, und_run hd, hgo, checkKey_run hkd hqd, hfind _ g1, hset, undef]
  · cases hk

/-! ## rounds over maps -/
theorem rRange_ok (H : Rep ν base W σ ι w) {t kt e : Nat} (hd : und P t = some (.map kt e)) {x : LV} {v : Value} {k : K R} {r : R} (hx : VR ν ι x v) (hk : rRange σ x k = some r) :
    VGood P ν base W ι w (Instr.range t v) k r := by
  unfold rRange at hk
  split at hk
  · simp only [VR] at hx; subst hx
    obtain ⟨σ', h1, h2, h3⟩ := alloc_ok H hk (.mapIter none 0 #[] 0) ⟨w.heap.size, 0, 0, 0⟩ rfl
      ⟨_, none, Inj.put_same .., rfl, H.hbase, by show (w.heap.push _)[w.heap.size]? = _; simp, rfl⟩ (fun _ _ _ q => by cases q)
    refine ⟨.pointer (some ⟨w.heap.size, 0, none⟩), w.alloc (.mapIter none 0 #[] 0), by simp [Instr.range, und_run hd], _, σ', _, h3, h2, ?_, h1⟩
    simp only [VR]; exact ⟨_, Inj.put_same .., rfl⟩
  · rename_i m
    simp only [VR] at hx
    obtain ⟨B, hB, rfl⟩ := hx
    obtain ⟨es, c, hb, hk⟩ := withMap_ok H hk
    obtain ⟨B', ms, hB', _, hg, he, hlt⟩ := H.obj _ _ hb
    rw [hB] at hB'; cases hB'
    have hgo := getObj_run (P := P) hg (fun _ _ _ => by simp)
    obtain ⟨σ', h1, h2, h3⟩ := alloc_ok H hk (.mapIter (some B.blk) c #[] c) ⟨w.heap.size, 0, 0, 0⟩ rfl
      ⟨_, some B.blk, Inj.put_same .., rfl, H.hbase, by show (w.heap.push _)[w.heap.size]? = _; simp, B, Inj.le_put _ H.unfresh _ _ hB, rfl⟩ (fun _ _ _ q => by cases q)
    refine ⟨.pointer (some ⟨w.heap.size, 0, none⟩), w.alloc (.mapIter (some B.blk) c #[] c), by simp [Instr.range, und_run hd, hgo], _, σ', _, h3, h2, ?_, h1⟩
    simp only [VR]; exact ⟨_, Inj.put_same .., rfl⟩
  · cases hk
theorem unseen_ok {seen : List Nat} : ∀ {es : List (LV × LV × Nat)} {ms : List MapEntry}, ERs ν ι es ms → ERs ν ι (unseen seen es) (ms.filter fun e => !seen.toArray.contains e.born)
  | [], ms, h => by cases h; rfl
  | (x, v, n) :: es, ms, h => by
    obtain ⟨m, t, rfl, h1, h2, h3, h4⟩ := h
    have ih := unseen_ok (seen := seen) h4
    simp only at h3
    have e : seen.any (Nat.beq n) = seen.toArray.contains m.born := by
      rw [h3]
      rw [Bool.eq_iff_iff]
      simp only [List.any_eq_true, natBeq, Array.contains_iff_mem, List.mem_toArray]
      constructor
      · rintro ⟨y, hy, rfl⟩; exact hy
      · intro hy; exact ⟨n, hy, rfl⟩
    simp only [unseen, e, List.filter_cons]
    cases seen.toArray.contains m.born with
    | true => simpa using ih
    | false => simp only [cond_false, Bool.not_false, if_true]; exact ⟨m, _, rfl, h1, h2, h3, ih⟩
theorem ERs.born : ∀ {es : List (LV × LV × Nat)} {ms : List MapEntry} {c : Nat}, ERs ν ι es ms → (∀ e ∈ es, e.2.2 < c) → ∀ m ∈ ms, m.born < c
  | [], ms, c, h, _, m, hm => by cases h; cases hm
  | e :: es, ms, c, h, hlt, m, hm => by
    obtain ⟨m', t, rfl, h1, h2, h3, h4⟩ := h
    cases hm with
    | head => rw [h3]; exact hlt _ (List.mem_cons_self ..)
    | tail _ hm => exact ERs.born h4 (fun e he => hlt e (List.mem_cons_of_mem _ he)) m hm
theorem rNext_ok (H : Rep ν base W σ ι w) {ty : TypeId} {x : LV} {v : Value} {k : K R} {r : R} (hx : VR ν ι x v) (hk : rNext σ x k = some r) :
    VGood P ν base W ι w (Instr.next v false ty) k r := by
  have hover : VR ν ι (.tup [.bool false]) (.tuple #[.bool false]) := by simp only [VR]; exact ⟨_, rfl, VRs_cons VR_bool VRs_nil⟩
  unfold rNext at hk
  split at hk
  · rename_i r0
    simp only [VR] at hx
    obtain ⟨B, hB, rfl⟩ := hx
    split at hk
    · rename_i since seen last hb
      obtain ⟨B1, m', hB1, h2, _, h3, h4⟩ := H.obj _ _ hb
      rw [hB] at hB1; cases hB1
      simp only at h4; subst h4
      have hgo := getObj_run (P := P) h3 (fun _ _ _ => by simp)
      refine ⟨.tuple #[.bool false], w, ?_, _, σ, ι, .refl _ _, H, hover, hk⟩
      rw [h2]
      simp [Instr.next, hgo]
    · rename_i m since seen last hb
      obtain ⟨B1, m', hB1, h2, hbase1, h3, h4⟩ := H.obj _ _ hb
      rw [hB] at hB1; cases hB1
      obtain ⟨B2, hB2, rfl⟩ := h4
      have hgo := getObj_run (P := P) h3 (fun _ _ _ => by simp)
      unfold nextMap at hk
      obtain ⟨es, c, hb', hk⟩ := withMap_ok H hk
      obtain ⟨hcc, hk'⟩ := cond_some hk
      clear hk
      simp only [Bool.and_eq_true, natBeq] at hcc
      obtain ⟨rfl, hcl⟩ := hcc
      subst hcl
      have hk := hk'
      clear hk'
      obtain ⟨B3, ms, hB3, _, hg, he, hlt⟩ := H.obj _ _ hb'
      rw [hB2] at hB3; cases hB3
      have hgo2 := getObj_run (P := P) hg (fun _ _ _ => by simp)
      have hun := unseen_ok (seen := seen) he
      have hborn := he.born hlt
      have hall : (!seen.toArray.isEmpty && !ms.isEmpty && ms.all fun e => decide (e.born ≥ c)) = false := by
        cases e1 : ms.isEmpty with
        | true => simp
        | false =>
          have : ∃ m, m ∈ ms := by
            cases hms : ms.toList with
            | nil => have : ms = #[] := Array.ext' (by simpa using hms); subst this; cases e1
            | cons m t => exact ⟨m, by rw [← Array.mem_toList_iff, hms]; exact List.mem_cons_self ..⟩
          obtain ⟨m, hm⟩ := this
          have hb1 := hborn m (by simpa using hm)
          have : (ms.all fun e => decide (e.born ≥ c)) = false := by
            rw [Bool.eq_false_iff]
            intro h
            rw [Array.all_eq_true'] at h
            have := h m hm
            simp at this; omega
          rw [this]; simp
      have hold : (ms.filter fun e => !seen.toArray.contains e.born).filter (fun e => decide (e.born < c)) = ms.filter fun e => !seen.toArray.contains e.born := by
        rw [Array.filter_eq_self]
        intro m hm
        have := (Array.mem_filter.1 hm).1
        simpa using hborn m (by simpa using this)
      have hnew : (ms.filter fun e => !seen.toArray.contains e.born).filter (fun e => decide (e.born ≥ c)) = #[] := by
        rw [Array.filter_eq_empty_iff]
        intro m hm
        have := (Array.mem_filter.1 hm).1
        have := hborn m (by simpa using this)
        simp; omega
      have hleft : (ms.filter fun e => !seen.toArray.contains e.born).toList = ms.toList.filter fun e => !seen.toArray.contains e.born := by simp
      split at hk
      · rename_i hu
        rw [hu] at hun
        have hemp : (ms.filter fun e => !seen.toArray.contains e.born) = #[] := Array.ext' (by rw [hleft]; exact hun)
        refine ⟨.tuple #[.bool false], w, ?_, _, σ, ι, .refl _ _, H, hover, hk⟩
        rw [h2]
        simp only [Instr.next, Sem.run_bind, hgo, Result.andThen_ok, hgo2, hall, hold, hnew, hemp]
        simp [Question.forced]
      · rename_i x1 v1 n1 hu
        rw [hu] at hun
        obtain ⟨m1, t1, hm1, g1, g2, g3, g4⟩ := hun
        cases g4
        have hone : (ms.filter fun e => !seen.toArray.contains e.born) = #[m1] := Array.ext' (by rw [hleft]; exact hm1)
        have hset : ∀ o', (setObj B.blk o').run P w = .ok () { w with heap := w.heap.setIfInBounds B.blk o' } := fun o' => setObj_run h3 (fun _ _ _ => by simp)
        have hch := H.change (o := .mit (some m) c (seen ++ [n1]) c) hB hbase1 (alone_not_cells H hb hB (fun _ _ _ q => by cases q)) (Chg.setObj (o' := .mapIter (some B2.blk) c (seen ++ [n1]).toArray c) h3)
          ⟨B, _, hB, h2, hbase1, (Chg.setObj h3).at_, B2, hB2, rfl⟩ (fun _ _ _ q => by cases q)
        refine ⟨.tuple #[.bool true, m1.key, m1.val], _, ?_, _, _, ι, hch.2, hch.1, ?_, hk⟩
        · rw [h2]
          simp only [Instr.next, Sem.run_bind, hgo, Result.andThen_ok, hgo2, hall, hold, hnew, hone]
          simp only at g3
          have hmem : m1 ∈ ms.toList := by
            have : m1 ∈ ms.filter (fun e => !seen.toArray.contains e.born) := by rw [hone]; simp
            simpa using (Array.mem_filter.1 this).1
          have hn1 : n1 < c := by rw [← g3]; exact hborn m1 hmem
          have hn2 : ¬ c ≤ n1 := by omega
          simp [Question.forced, hset, g3, hn1, hn2]
        · simp only [VR]; exact ⟨_, rfl, VRs_cons VR_bool (VRs_cons g1 (VRs_cons g2 VRs_nil))⟩
      · cases hk
    · cases hk
  · cases hk
end
end Go.Eng
