/- The symbolic executor's further operations that do not write follow the model's: places, slices, strings, parts. Conditions: none. -/
import Derived.Test.YthignahfnlgolaaGreatDoorEngPure2
namespace Go.Eng
section
variable {ν : Nat → Int} {base : Nat} {W w : World} {σ : St} {ι : Inj} {R : Type} {P : Program} {C : Cfg}

theorem withNat_ok {x : LV} {v : Value} {k : Nat → Option R} {r : R} (hx : VR ν ι x v) (hk : withNat x k = some r) : ∃ kd n, v = .int kd (Int.ofNat n) ∧ k n = some r := by
  unfold withNat at hk
  split at hk
  · simp only [VR] at hx; exact ⟨_, _, hx, hk⟩
  · cases hk
theorem rUn_ok (hC : C.Holds ν) {op : UnOp} {x : LV} {v : Value} {k : LV → Option R} {r : R} (hx : VR ν ι x v) (hk : rUn C op x k = some r) :
    PGood P ν ι w (Op.unary op v) k r := by
  unfold rUn at hk
  split at hk
  · simp only [VR] at hx; subst hx; exact .of hk VR_bool (by simp [Op.unary])
  · simp only [VR] at hx; subst hx; exact .of hk VR_int (by simp only [Op.unary, Op.intArith, wrap_eq]; rfl)
  · simp only [VR] at hx; subst hx; exact .of hk (mkSym_VR hC _ _) (by simp [Op.unary, Op.intArith, E.den, semI])
  · cases hk
theorem rFaddr_ok {t f : Nat} {fs : Array Field} {g : Field} (hd : und P t = some (.struct fs)) (hf : fs[f]? = some g) (hz : sizeOf P g.type ≠ 0) {x : LV} {v : Value} {k : LV → Option R} {r : R}
    (hx : VR ν ι x v) (hk : rFaddr g.offset x k = some r) : PGood P ν ι w (Instr.fieldAt t v f) k r := by
  unfold rFaddr at hk
  split at hk
  · simp only [VR] at hx
    obtain ⟨B, hB, rfl⟩ := hx
    rename_i b o
    refine .of (u := .pointer (some ⟨B.blk, B.base + (o + g.offset), none⟩)) hk ?_ ?_
    · simp only [VR]; exact ⟨B, hB, rfl⟩
    · simp [Instr.fieldAt, und_run hd, hf, Instr.sureAddr, Go.fieldPlace, size_run hz, hz, Addr.add_lit, Nat.add_assoc]
  · cases hk
theorem rIaddr_ok {t e : Nat} (hd : und P t = some (.slice e)) (hz : sizeOf P e ≠ 0) {x i : LV} {v j : Value} {k : LV → Option R} {r : R}
    (hx : VR ν ι x v) (hi : VR ν ι i j) (hk : rIaddr (sizeOf P e) x i k = some r) : PGood P ν ι w (Instr.indexAt t v j) k r := by
  unfold rIaddr at hk
  split at hk
  · rename_i s b o len cap
    obtain ⟨kd, n, rfl, hk⟩ := withNat_ok hi hk
    obtain ⟨h1, hk⟩ := cond_some hk
    rw [natBlt] at h1
    simp only [VR] at hx
    obtain ⟨B, a, cc, hB, rfl, hlc, h0, hsp, ha, _⟩ := hx
    have ha := ha.resolve_left (by omega)
    subst ha
    refine .of (u := .pointer (some ⟨B.blk, B.base + (o + n * sizeOf P e), none⟩)) hk ?_ ?_
    · simp only [VR]; exact ⟨B, hB, rfl⟩
    · simp [Instr.indexAt, asIntOf, und_run hd, h1, size_run hz, Addr.add_lit, Nat.add_assoc]
  · cases hk
theorem nthS_ok {k : LV → Option R} {r : R} : ∀ {l : List Nat} {i : Nat}, nthS k l i = some r → ∃ b, l[i]? = some b ∧ k (.int .u8 (.ofNat b)) = some r
  | [], _, h => by cases h
  | b :: _, 0, h => ⟨b, rfl, h⟩
  | _ :: l, i + 1, h => by obtain ⟨b, h1, h2⟩ := nthS_ok (l := l) (i := i) h; exact ⟨b, by simpa using h1, h2⟩
theorem str_get {s : ByteArray} {i b : Nat} (h : (s.data.toList.map UInt8.toNat)[i]? = some b) : ∃ c, s[i]? = some c ∧ c.toNat = b := by
  rw [List.getElem?_map] at h
  cases e : s.data.toList[i]? with
  | none => rw [e] at h; cases h
  | some c =>
    rw [e] at h
    have hi : i < s.size := by
      have := (List.getElem?_eq_some_iff.1 e).1
      simpa using this
    refine ⟨c, ?_, by simpa using h⟩
    rw [ByteArray.getElem?_lt' s i hi]
    rw [Array.getElem?_toList] at e
    have : s.data[i]? = some s.data[i] := Array.getElem?_eq_getElem hi
    rw [this] at e
    exact e
theorem rSindex_ok {t : Nat} (hd : und P t = some .string) {x i : LV} {v j : Value} {k : LV → Option R} {r : R} (hx : VR ν ι x v) (hi : VR ν ι i j) (hk : rSindex x i k = some r) :
    PGood P ν ι w (Instr.index t v j) k r := by
  unfold rSindex at hk
  split at hk
  · obtain ⟨kd, n, rfl, hk⟩ := withNat_ok hi hk
    obtain ⟨b, h1, h2⟩ := nthS_ok hk
    simp only [VR] at hx
    obtain ⟨s, rfl, rfl⟩ := hx
    obtain ⟨c, h3, rfl⟩ := str_get h1
    exact .of h2 VR_int (by simp [Instr.index, asIntOf, und_run hd, h3])
  · cases hk
theorem withIx_ok {loc : List LV} {fr : Fr} {env : Env} {ρ : Operand → Value} (HX : ∀ x, VR ν ι (ev loc fr (cX env x)) (ρ x)) {x : Option Operand} {d : Nat} {k : Nat → Option R} {r : R}
    (hk : withIx loc fr (cXo env x) d k = some r) : ∃ n, k n = some r ∧ ((x = none ∧ n = d) ∨ ∃ kd, x.map ρ = some (.int kd (Int.ofNat n))) := by
  cases x with
  | none => exact ⟨d, hk, .inl ⟨rfl, rfl⟩⟩
  | some x =>
    obtain ⟨kd, n, h1, h2⟩ := withNat_ok (HX x) hk
    exact ⟨n, h2, .inr ⟨kd, congrArg some h1⟩⟩
theorem bound_run {kd : IntKind} {n y : Nat} {c : BoundsCode} (h : n ≤ y) : (Instr.sliceBound (.int kd (Int.ofNat n)) y c).run P w = .ok n w := by
  simp [Instr.sliceBound, asIntOf, h]
theorem bounds_run {b : Bool} {len cap l h : Nat} {lo hi : Option Value} (hl : (lo = none ∧ l = 0) ∨ ∃ kd, lo = some (.int kd (Int.ofNat l)))
    (hh : (hi = none ∧ h = len) ∨ ∃ kd, hi = some (.int kd (Int.ofNat h))) (h1 : l ≤ h) (h2 : h ≤ cap) :
    (Instr.sliceBounds b len cap lo hi none).run P w = .ok (l, h, cap) w := by
  rcases hl with ⟨rfl, rfl⟩ | ⟨kd, rfl⟩ <;> rcases hh with ⟨rfl, rfl⟩ | ⟨kd', rfl⟩ <;> simp [Instr.sliceBounds, bound_run, h1, h2, -Int.ofNat_eq_natCast]
theorem bounds_run3 {b : Bool} {len cap l h m : Nat} {lo hi : Option Value} {km : IntKind} (hl : (lo = none ∧ l = 0) ∨ ∃ kd, lo = some (.int kd (Int.ofNat l)))
    (hh : ∃ kd, hi = some (.int kd (Int.ofNat h))) (h1 : l ≤ h) (h2 : h ≤ m) (h3 : m ≤ cap) :
    (Instr.sliceBounds b len cap lo hi (some (.int km (Int.ofNat m)))).run P w = .ok (l, h, m) w := by
  obtain ⟨kd', rfl⟩ := hh
  rcases hl with ⟨rfl, rfl⟩ | ⟨kd, rfl⟩ <;> simp [Instr.sliceBounds, bound_run, h1, h2, h3, -Int.ofNat_eq_natCast]
theorem noneOr {x : Option Operand} {ρ : Operand → Value} {n d : Nat} (h : (x = none ∧ n = d) ∨ ∃ kd, x.map ρ = some (.int kd (Int.ofNat n))) :
    (x.map ρ = none ∧ n = d) ∨ ∃ kd, x.map ρ = some (.int kd (Int.ofNat n)) := h.imp (fun ⟨h1, h2⟩ => ⟨by rw [h1]; rfl, h2⟩) id
theorem rSlcS_ok {t : Nat} (hd : und P t = some .string) {loc : List LV} {fr : Fr} {env : Env} {ρ : Operand → Value} (HX : ∀ x, VR ν ι (ev loc fr (cX env x)) (ρ x)) {lo hi : Option Operand}
    {x : LV} {v : Value} {k : LV → Option R} {r : R} (hx : VR ν ι x v) (hk : rSlcS loc fr (cXo env lo) (cXo env hi) x k = some r) : PGood P ν ι w (Instr.sliceAt t v (lo.map ρ) (hi.map ρ) none) k r := by
  unfold rSlcS at hk
  split at hk
  · obtain ⟨l, hk, hl⟩ := withIx_ok HX hk
    obtain ⟨h, hk, hh⟩ := withIx_ok HX hk
    obtain ⟨h1, hk⟩ := cond_some hk
    simp only [Bool.and_eq_true, natBle] at h1
    obtain ⟨h1, h2⟩ := h1
    simp only [VR] at hx
    obtain ⟨s, rfl, rfl⟩ := hx
    simp only [List.length_map, Array.length_toList] at h2 hh
    refine .of (u := .string (s.extract l h)) hk ?_ ?_
    · simp only [VR]
      refine ⟨_, rfl, ?_⟩
      simp only [cut, ByteArray.data_extract, Array.toList_extract, List.extract, List.map_take, List.map_drop]
    · have hb := bounds_run (P := P) (w := w) (b := false) (len := s.size) (cap := s.size) (noneOr hl) (noneOr hh) h1 h2
      simp [Instr.sliceAt, und_run hd, Instr.slice, hb]
  · cases hk
theorem sure_le (h : Rep ν base W σ ι w) {s b o cc : Nat} {cap : Option Nat} {B : Blk} {cs : List LV} {c st : Nat} (hb : σ.hp.get b = some (.cells cs c st)) (hB : ι b = some B) (hs : 0 < s)
    (hc : match cap with | some c => cc = c | none => B.m ≤ o + cc * s ∧ B.base + o + cc * s ≤ B.n) : sureCap s o (lenL cs) cap ≤ cc := by
  obtain ⟨B', _, _, _, hB', _, _, hm, _⟩ := h.obj _ _ hb
  rw [hB] at hB'; cases hB'
  cases cap with
  | some c => simp only at hc; subst hc; exact Nat.le_refl _
  | none =>
    simp only [sureCap]
    rw [lenL_eq, ← hm]
    have : (B.m - o) / s ≤ (cc * s) / s := Nat.div_le_div_right (by omega)
    rwa [Nat.mul_div_cancel _ hs] at this
theorem rSlc_ok (H : Rep ν base W σ ι w) {t e : Nat} (hd : und P t = some (.slice e)) (hz : sizeOf P e ≠ 0) {loc : List LV} {fr : Fr} {env : Env} {ρ : Operand → Value} (HX : ∀ x, VR ν ι (ev loc fr (cX env x)) (ρ x))
    {lo hi mx : Option Operand} {x : LV} {v : Value} {k : LV → Option R} {r : R} (hx : VR ν ι x v) (hm : mx ≠ none → hi ≠ none) (hk : rSlc (sizeOf P e) loc fr σ (cXo env lo) (cXo env hi) (cXo env mx) x k = some r) :
    PGood P ν ι w (Instr.sliceAt t v (lo.map ρ) (hi.map ρ) (mx.map ρ)) k r := by
  have hsl : ∀ u, Instr.sliceAt t u (lo.map ρ) (hi.map ρ) (mx.map ρ) = Instr.sliceAt t u (lo.map ρ) (hi.map ρ) (mx.map ρ) := fun _ => rfl
  have hgo : ∀ {a : Option Addr} {len cc l h m : Nat}, (Instr.sliceBounds true len cc (lo.map ρ) (hi.map ρ) (mx.map ρ)).run P w = .ok (l, h, m) w →
      (Instr.sliceAt t (.slice a len cc) (lo.map ρ) (hi.map ρ) (mx.map ρ)).run P w = .ok (.slice (if m = l then a else a.map (·.add (l * sizeOf P e))) (h - l) (m - l)) w := by
    intro a len cc l h m hb
    simp [Instr.sliceAt, und_run hd, Instr.slice, hb, size_run hz]
  unfold rSlc at hk
  split at hk
  · simp only [VR] at hx; subst hx
    cases mx with
    | none =>
      simp only [cXo] at hk
      obtain ⟨l, hk, hl⟩ := withIx_ok HX hk
      obtain ⟨h, hk, hh⟩ := withIx_ok HX hk
      obtain ⟨h1, hk⟩ := cond_some hk
      simp only [Bool.and_eq_true, natBeq] at h1
      obtain ⟨rfl, rfl⟩ := h1
      exact .of (u := .slice none 0 0) hk (by simp only [VR]) (by simpa using hgo (a := none) (bounds_run (noneOr hl) (noneOr hh) (Nat.le_refl 0) (Nat.le_refl 0)))
    | some mx =>
      simp only [cXo] at hk
      obtain ⟨l, hk, hl⟩ := withIx_ok HX hk
      obtain ⟨h, hk, hh⟩ := withIx_ok HX hk
      obtain ⟨kd, m, hmv, hk⟩ := withNat_ok (HX mx) hk
      obtain ⟨h1, hk⟩ := cond_some hk
      simp only [Bool.and_eq_true, natBeq] at h1
      obtain ⟨⟨rfl, rfl⟩, rfl⟩ := h1
      have hh' := hh.resolve_left (fun e => hm (by simp) e.1)
      refine .of (u := .slice none 0 0) hk (by simp only [VR]) ?_
      have := bounds_run3 (P := P) (w := w) (b := true) (len := 0) (km := kd) (noneOr hl) hh' (Nat.le_refl 0) (Nat.le_refl 0) (Nat.le_refl 0)
      have hg := hgo (a := none) (len := 0) (cc := 0) (l := 0) (h := 0) (m := 0) (by simpa [hmv] using this)
      simpa using hg
  · rename_i s' b o len cap
    obtain ⟨l, hk, hl⟩ := withIx_ok HX hk
    obtain ⟨h, hk, hh⟩ := withIx_ok HX hk
    obtain ⟨cs, c, st, hb, hk⟩ := withCells_ok H hk
    obtain ⟨h1, hk2⟩ := cond_some hk
    clear hk
    simp only [Bool.and_eq_true, natBeq, natBle] at h1
    obtain ⟨⟨hs, h1⟩, h2⟩ := h1
    subst hs
    simp only [VR] at hx
    obtain ⟨B, a, cc, hB, rfl, hlc, h0, hsp, ha, hcap⟩ := hx
    have hsure := sure_le H hb hB h0 hcap
    have haddr : ∀ m, h ≤ m → m ≤ cc → ∃ a', (if m = l then some a else (some a).map (·.add (l * sizeOf P e))) = some a' ∧ a'.spot = none ∧ (m - l = 0 ∨ a' = ⟨B.blk, B.base + (o + l * sizeOf P e), none⟩) := by
      intro m hm1 hm2
      by_cases em : m = l
      · exact ⟨a, by rw [if_pos em], hsp, .inl (by omega)⟩
      · have : a = ⟨B.blk, B.base + o, none⟩ := ha.resolve_left (by omega)
        refine ⟨a.add (l * sizeOf P e), by rw [if_neg em]; rfl, ?_, .inr ?_⟩
        · rw [this, Addr.add_lit]
        · rw [this, Addr.add_lit, Nat.add_assoc]
    cases mx with
    | none =>
      simp only [cXo] at hk2
      have hk := hk2
      obtain ⟨a', he, hsp', ha'⟩ := haddr cc (by omega) (Nat.le_refl _)
      have hrun := hgo (a := some a) (len := len) (bounds_run (noneOr hl) (noneOr hh) h1 (Nat.le_trans h2 hsure))
      rw [he] at hrun
      refine .of hk ?_ hrun
      simp only [VR]
      refine ⟨B, a', cc - l, hB, rfl, by omega, h0, hsp', ha', ?_⟩
      cases cap with
      | some c => simp only at hcap; subst hcap; rfl
      | none =>
        simp only [minusO]
        simp only at hcap
        have : o + l * sizeOf P e + (cc - l) * sizeOf P e = o + cc * sizeOf P e := by
          rw [Nat.add_assoc, ← Nat.add_mul, show l + (cc - l) = cc by omega]
        rw [Nat.add_assoc B.base, this]
        exact ⟨hcap.1, by omega⟩
    | some mx =>
      simp only [cXo] at hk2
      have hk := hk2
      unfold slcMax at hk
      obtain ⟨kd, m, hmv, hk⟩ := withNat_ok (HX mx) hk
      obtain ⟨h3, hk⟩ := cond_some hk
      simp only [Bool.and_eq_true, natBle] at h3
      have hh' : ∃ kd, hi.map ρ = some (.int kd (Int.ofNat h)) := hh.resolve_left (fun e => hm (by simp) e.1)
      obtain ⟨a', he, hsp', ha'⟩ := haddr m h3.1 (by omega)
      have hrun := hgo (a := some a) (len := len) (cc := cc) (l := l) (h := h) (m := m) (by
        have := bounds_run3 (P := P) (w := w) (b := true) (len := len) (cap := cc) (km := kd) (noneOr hl) hh' h1 h3.1 (by omega)
        simpa [hmv] using this)
      rw [he] at hrun
      refine .of hk ?_ hrun
      simp only [VR]
      exact ⟨B, a', m - l, hB, rfl, by omega, h0, hsp', ha', rfl⟩
  · cases hk
end
end Go.Eng
