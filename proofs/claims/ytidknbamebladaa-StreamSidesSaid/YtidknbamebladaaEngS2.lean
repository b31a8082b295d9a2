/- A loop over a slice of whole numbers among the arguments, whose rounds are run by the symbolic executor from each of a few states, at each kind of element. Conditions: none. -/
import Derived.Test.YtidknbamebladaaEngS
namespace Go.Eng
open Go.RowKit (Below)

structure EC where
  facts : List (BinOp × E × E × Bool)
  rws : List (E × E)
abbrev AS := List (Nat × LV)
/-- the temporaries of a loop: the slice, its length, the place; the element's address, the element, twice; the law's result; how it is left -/
structure LT where
  ts : Nat
  tl : Nat
  ti : Nat
  d0 : Nat
  d1 : Nat
  d2 : Nat
  tr : Nat
  xid : Nat
noncomputable section
def elemX : LV := .sym .i64 (.var 0)
def afterElem (mask : Nat) (T : LT) (fr : Fr) : Fr := keepV (keepV (keepV fr .bad (keepIn mask (some T.d0))) elemX (keepIn mask (some T.d1))) elemX (keepIn mask (some T.d2))
def prep (v : LV) (o : Option (List LV)) : Option (List LV) := match o with | some r => some (v :: r) | none => none
def isIx (v : LV) (k : Option (List LV)) : Option (List LV) := match v with | .sym .i64 (.var 1) => k | _ => none
def hdR (mask : Nat) (T : LT) : HK (List LV) := fun _ fr σ k => isIx (getV (fr.get T.ti)) (prep (getV (fr.get T.ts)) (k .normal (afterElem mask T fr) σ))
def fits1 (fr : Fr) (s : AS) : Bool := s.all fun p => LV.beq p.2 (getV (fr.get p.1))
def nextOk (S : List AS) (T : LT) (fr : Fr) : Bool := S.any (fits1 fr) && (LV.beq (.sym .i64 (.var 2)) (getV (fr.get T.tl)) && LV.beq (.sym .i64 (.bin .add .i64 (.var 1) (.lit 1))) (getV (fr.get T.ti)))
def kRound (S : List AS) (T : LT) : ExK (List LV) := fun o fr _ => match o with
  | .normal => cond (nextOk S T fr) (some [getV (fr.get T.ts)]) none
  | .ret => cond (LV.beq (.bool true) (getV (fr.get T.tr))) (some []) none
  | .exit _ => none
def kExit (T : LT) : ExK (List LV) := fun o _ _ => match o with
  | .exit id => cond (Nat.beq id T.xid) (some []) none
  | _ => none
def cfgR (P : Program) (mask : Nat) (e : EC) : Cfg := ⟨P, fun _ => mask, fun _ => none, (.lss, .var 1, .var 2, true) :: e.facts, e.rws⟩
def cfgX (P : Program) (mask : Nat) : Cfg := ⟨P, fun _ => mask, fun _ => none, [(.lss, .var 1, .var 2, false)], []⟩
def ixs (T : LT) (s : AS) : AS := (T.tl, .sym .i64 (.var 2)) :: (T.ti, .sym .i64 (.var 1)) :: s
def slN (n : Nat) : LV := .slice 1 0 0 n none
def roundF (P : Program) (mask nt : Nat) (h : Code → Option Nat) (x : Code) (T : LT) (S : List AS) (σ0 : St) (sl : LV) (c : AS × EC) : Option (List LV) :=
  runH (cfgR P mask c.2) (call (cfgR P mask c.2) 1000 50) 1000 (hdR mask T) (compH P mask nt h x) (mkFr ((T.ts, sl) :: ixs T c.1)) σ0 (kRound S T)
def exitF (P : Program) (mask nt : Nat) (h : Code → Option Nat) (x : Code) (T : LT) (σ0 : St) (s : AS) : Option (List LV) :=
  runH (cfgX P mask) (call (cfgX P mask) 1000 50) 1000 (fun _ _ _ _ => none) (compH P mask nt h x) (mkFr (ixs T s)) σ0 (kExit T)
def more {α : Type} (o p : Option (List α)) : Option (List α) := match o with
  | some l => (match p with | some m => some (l ++ m) | none => none)
  | none => none
def collect {α : Type} (f : α → Option (List LV)) (l : List α) : Option (List LV) := List.rec (some []) (fun c _ ih => more (f c) ih) l
def pairs (S : List AS) (Es : List EC) : List (AS × EC) := S.flatMap fun s => Es.map fun e => (s, e)
end
theorem collect_mem {α : Type} {f : α → Option (List LV)} : ∀ {l : List α} {r : List LV}, collect f l = some r → ∀ c ∈ l, ∃ q, f c = some q ∧ ∀ v ∈ q, v ∈ r
  | [], _, _, c, hc => by cases hc
  | a :: l, r, h, c, hc => by
    have h : more (f a) (collect f l) = some r := h
    unfold more at h
    split at h
    · rename_i q hq
      split at h
      · rename_i m hm
        cases h
        cases hc with
        | head => exact ⟨q, hq, fun v hv => List.mem_append_left _ hv⟩
        | tail _ hc =>
          obtain ⟨q', h1, h2⟩ := collect_mem hm c hc
          exact ⟨q', h1, fun v hv => List.mem_append_right _ (h2 v hv)⟩
      · cases h
    · cases h

section
variable {P : Program}
theorem noPrims {C : Cfg} {ν : Nat → Int} {base : Nat} {W : World} {R : Type} (hC : C.Holds ν) (hP : C.P = P) (hnum : ∀ (f : Nat) fn, P.funcs[f]? = some fn → (fn.name == "runtime.NumGoroutine") = false) (hprims : ∀ f, C.prims f = none) (loops n : Nat) :
    CallOk P ν base W (callF C (call C loops n) : CallK R) :=
  callF_ok (call_ok hC hP hnum (fun f p hp => by rw [hprims f] at hp; cases hp) loops n) (fun f p hp => by rw [hprims f] at hp; cases hp)

theorem loop_ok (hnum : ∀ (f : Nat) fn, P.funcs[f]? = some fn → (fn.name == "runtime.NumGoroutine") = false) {x : Code} {mask nt : Nat} (hnt : nt ≤ 100000) {h : Code → Option Nat} {T : LT} {S : List AS} {Es : List EC} {σ0 : St} {ι0 : Inj} {m : Nat}
    {q id : Nat} {ops : Array Oper} {t e te : Nat} {o0 o1 o2 : Oper} (hh : holes h x = [(q, .region id ops false)]) (hs : ops.size = 3) (h0 : ops[0]? = some o0) (h1 : ops[1]? = some o1) (h2 : ops[2]? = some o2)
    (g0 : o0.guard = none) (g1 : o1.guard = none) (g2 : o2.guard = none) (p0 : o0.op = .indexAddr t (.tmp T.ts) (.tmp T.ti)) (p1 : o1.op = .load te (.tmp T.d0)) (p2 : o2.op = .assign (.tmp T.d1)) (q0 : o0.dst = some T.d0) (q1 : o1.dst = some T.d1) (q2 : o2.dst = some T.d2)
    (hd : und P t = some (.slice e)) (hz : sizeOf P e = 1) (hag : agg? P te = some false) (hlt : T.d0 < nt ∧ T.d1 < nt ∧ T.d2 < nt)
    {w : World} {n : Nat} (hn : n ≤ 100000) {B : Blk} {xs : Nat → Int} (hB : ι0 0 = some B) (hm0 : 0 < m)
    (hcell : ∀ i, i < n → ∀ w', Below w.heap.size w w' → w'.cell? ((⟨B.blk, B.base, none⟩ : Addr).add i) = some (.int .i64 (xs i)))
    (hi0 : ∀ b, b < m → ∃ B, ι0 b = some B) (hRep : ∀ ν w', Below w.heap.size w w' → Rep ν w.heap.size w σ0 ι0 w')
    (hcase : ∀ i, i < n → ∃ e ∈ Es, ∀ ν : Nat → Int, ν 0 = xs i → (∀ op a b r, (op, a, b, r) ∈ e.facts → semC op (E.den ν a) (E.den ν b) = r) ∧ ∀ a b, (a, b) ∈ e.rws → E.den ν a = E.den ν b)
    (hclosed : (S.all fun s => s.all fun p => closedV m p.2) = true) (hkeys : (S.all fun s => keysOk mask ((T.ts, LV.nilslice) :: ixs T s)) = true)
    {l : List LV} (hround : collect (roundF P mask nt h x T S σ0 (slN n)) (pairs S Es) = some l) (hl : ∀ v ∈ l, v = slN n) {l' : List LV} (hexit : collect (exitF P mask nt h x T σ0) S = some l')
    {a : Act} (ha : a.defers = [] ∧ nt ≤ a.tmps.size ∧ (0 < n → ∀ ν, VR ν ι0 (slN n) (a.tmps.getD T.ts undef)) ∧ a.tmps.getD T.tl undef = .int .i64 n ∧ a.tmps.getD T.ti undef = .int .i64 0 ∧ ∃ s ∈ S, ∀ p ∈ s, ∀ ν, VR ν ι0 p.2 (a.tmps.getD p.1 undef))
    {Q : Exit → Act → World → Prop} (hQx : ∀ a' w', a'.defers = [] → nt ≤ a'.tmps.size → Below w.heap.size w w' → Q (.exit T.xid) a' w')
    (hQr : ∀ a' w', a'.defers = [] → nt ≤ a'.tmps.size → a'.tmps.getD T.tr undef = .bool true → Below w.heap.size w w' → Q .ret a' w') : (Code.loop x).wp P Q a w := by
  let I : Act → World → Prop := fun a' w' => ∃ i : Nat, i ≤ n ∧ a'.defers = [] ∧ nt ≤ a'.tmps.size ∧ (0 < n → ∀ ν, VR ν ι0 (slN n) (a'.tmps.getD T.ts undef)) ∧ a'.tmps.getD T.tl undef = .int .i64 n ∧ a'.tmps.getD T.ti undef = .int .i64 i ∧
    (∃ s ∈ S, ∀ p ∈ s, ∀ ν, VR ν ι0 p.2 (a'.tmps.getD p.1 undef)) ∧ Below w.heap.size w w'
  refine wp_loop I (fun a' _ => (n - (RowKit.intOf (a'.tmps.getD T.ti undef)).toNat)) ⟨0, Nat.zero_le _, ha.1, ha.2.1, ha.2.2.1, ha.2.2.2.1, ha.2.2.2.2.1, ha.2.2.2.2.2, Below.refl _ _⟩ ?_
  rintro a1 w1 ⟨i, hin, hd1, hs1, hts, htl, hti, ⟨s, hsS, hsv⟩, hbel⟩
  rw [List.all_eq_true] at hclosed hkeys
  have hkey := hkeys s hsS
  have hixs : ∀ (ν : Nat → Int), ν 1 = i → ν 2 = n → ∀ p ∈ ixs T s, VR ν ι0 p.2 (a1.tmps.getD p.1 undef) := by
    intro ν e1 e2 p hp
    cases hp with
    | head => show VR ν ι0 (.sym .i64 (.var 2)) (a1.tmps.getD T.tl undef); rw [htl]; simp only [VR, E.den, e2]
    | tail _ hp =>
      cases hp with
      | head => show VR ν ι0 (.sym .i64 (.var 1)) (a1.tmps.getD T.ti undef); rw [hti]; simp only [VR, E.den, e1]
      | tail _ hp => exact hsv p hp ν
  rcases Nat.lt_or_ge i n with hlt' | hge
  · have hnp : 0 < n := by omega
    obtain ⟨ec, hec, hecs⟩ := hcase i hlt'
    let ν : Nat → Int := fun j => if j = 0 then xs i else if j = 1 then i else n
    have hν := hecs ν rfl
    have hC : (cfgR P mask ec).Holds ν := by
      refine ⟨?_, hν.2⟩
      intro op a b r hm
      cases hm with
      | head => exact decide_eq_true (show ((i : Nat) : Int) < (n : Nat) by omega)
      | tail _ hm => exact hν.1 op a b r hm
    obtain ⟨rl, hrl, hrl2⟩ := collect_mem hround (s, ec) (by simp only [pairs, List.mem_flatMap, List.mem_map]; exact ⟨s, hsS, ec, hec, rfl⟩)
    have hf : FrOk ν ι0 mask nt (mkFr ((T.ts, slN n) :: ixs T s)) a1 := by
      refine mkFr_ok (by have := hkey; simp only [keysOk, List.all_cons] at this ⊢; exact this) hd1 hs1 ?_
      intro p hp
      cases hp with
      | head => exact hts hnp ν
      | tail _ hp => exact hixs ν rfl rfl p hp
    have hhole : ∀ j y, (j, y) ∈ holes h x → HoleOk P ν w.heap.size w mask nt (fun r : List LV => ∀ v ∈ r, v = slN n) ι0 w1 y (hdR mask T j) := by
      intro j y hm
      rw [hh] at hm
      simp only [List.mem_singleton, Prod.mk.injEq] at hm
      obtain ⟨rfl, rfl⟩ := hm
      intro fr σ k r a2 w2 ι hk hok hst H2 hf2
      simp only [hdR] at hk
      unfold isIx at hk
      split at hk
      · rename_i hix
        unfold prep at hk
        split at hk
        · rename_i r' hr'
          cases hk
          have htsl : getV (fr.get T.ts) = slN n := hok _ (List.mem_cons_self ..)
          have v1 : VR ν ι (getV (fr.get T.ts)) (a2.tmps.getD T.ts undef) := HX_of (env := []) (loc := []) hf2 (fun t i h => by cases h) (.tmp T.ts)
          have v2 : VR ν ι (getV (fr.get T.ti)) (a2.tmps.getD T.ti undef) := HX_of (env := []) (loc := []) hf2 (fun t i h => by cases h) (.tmp T.ti)
          rw [htsl] at v1
          rw [hix] at v2
          simp only [slN, VR] at v1
          obtain ⟨B', a', cc, hB', e1, hlen, _, hsp, hor, _⟩ := v1
          have := hst.le _ _ hB
          rw [this] at hB'; cases hB'
          have ha' := hor.resolve_left (by omega)
          subst ha'
          simp only [VR] at v2
          have v2 : a2.tmps.getD T.ti undef = .int .i64 (i : Nat) := v2
          have hX : VR ν ι elemX (.int .i64 (xs i)) := by simp only [elemX, VR]; rfl
          refine elem_region hs h0 h1 h2 g0 g1 g2 p0 p1 p2 q0 q1 q2 hd hz hag e1 v2 hlt' (hcell i hlt' w2 H2.below) (Nat.lt_of_lt_of_le hlt.1 hf2.size) (Nat.lt_of_lt_of_le hlt.2.1 hf2.size) ?_
          refine ⟨r', fun v hv => hok v (List.mem_cons_of_mem _ hv), .normal, afterElem mask T fr, σ, ι, rfl, .refl _ _, H2, ?_, hr'⟩
          exact ((hf2.put hnt (by intro d e; cases e; exact hlt.1) (x := .bad) (by simp only [VR])).put hnt (by intro d e; cases e; exact hlt.2.1) hX).put hnt (by intro d e; cases e; exact hlt.2.2) hX
        · cases hk
      · cases hk
    refine wp_mono (runH_ok hC rfl (noPrims hC rfl hnum (fun _ => rfl) 1000 50) hnt x _ _ _ rl a1 w1 ι0 hhole hrl (fun v hv => hl v (hrl2 v hv)) (.refl _ _) (hRep ν w1 hbel) hf) ?_
    rintro e a' w' ⟨r', hr', o, fr', σ', ι', rfl, f1, f2, f3, f4⟩
    have vals : ∀ t, VR ν ι' (getV (fr'.get t)) (a'.tmps.getD t undef) := fun t => HX_of (env := []) (loc := []) f3 (fun t i h => by cases h) (.tmp t)
    have same : ∀ b, b < m → ι' b = ι0 b := by intro b hb; obtain ⟨B1, h1⟩ := hi0 b hb; rw [h1]; exact f1.le _ _ h1
    cases o with
    | normal =>
      have f4 : cond (nextOk S T fr') (some [getV (fr'.get T.ts)]) none = some r' := f4
      obtain ⟨k1, k2⟩ := cond_some f4
      cases k2
      simp only [nextOk, Bool.and_eq_true, List.any_eq_true] at k1
      obtain ⟨⟨s', hs', k1⟩, k2, k3⟩ := k1
      have hts' : getV (fr'.get T.ts) = slN n := hr' _ (List.mem_cons_self ..)
      have vts := vals T.ts
      rw [hts'] at vts
      have vtl := vals T.tl
      rw [← LV.beq_eq _ _ k2] at vtl
      simp only [VR] at vtl
      have vti := vals T.ti
      rw [← LV.beq_eq _ _ k3] at vti
      simp only [VR] at vti
      have vti : a'.tmps.getD T.ti undef = .int .i64 ((i + 1 : Nat) : Int) := by
        rw [vti]
        show Value.int .i64 (IntKind.wrap .i64 ((i : Nat) + 1)) = _
        rw [wrap_in _ (by omega) (by omega)]
        rfl
      refine ⟨⟨i + 1, hlt', f3.defers, f3.size, ?_, vtl, vti, ⟨s', hs', ?_⟩, f2.below⟩, ?_⟩
      · intro _ ν'
        exact VR.closed same _ _ (by simp only [slN, closedV]; exact natBlt.2 hm0) vts
      · intro p hp ν'
        unfold fits1 at k1
        rw [List.all_eq_true] at k1
        have vp := vals p.1
        rw [← LV.beq_eq _ _ (k1 p hp)] at vp
        have hcl := hclosed s' hs'
        rw [List.all_eq_true] at hcl
        exact VR.closed same _ _ (hcl p hp) vp
      · show n - (RowKit.intOf (a'.tmps.getD T.ti undef)).toNat < n - (RowKit.intOf (a1.tmps.getD T.ti undef)).toNat
        rw [vti, hti]
        simp only [RowKit.intOf, Int.toNat_natCast]
        omega
    | exit id' => cases f4
    | ret =>
      have f4 : cond (LV.beq (.bool true) (getV (fr'.get T.tr))) (some []) none = some r' := f4
      obtain ⟨k1, _⟩ := cond_some f4
      have vtr := vals T.tr
      rw [← LV.beq_eq _ _ k1] at vtr
      simp only [VR] at vtr
      exact hQr a' w' f3.defers f3.size vtr f2.below
  · have hin' : i = n := by omega
    subst hin'
    let ν : Nat → Int := fun _ => i
    have hC : (cfgX P mask).Holds ν := by
      refine ⟨?_, fun _ _ h => by cases h⟩
      intro op a b r hm
      cases hm with
      | head => exact decide_eq_false (show ¬ ((i : Nat) : Int) < (i : Nat) by omega)
      | tail _ hm => cases hm
    obtain ⟨rl, hrl, _⟩ := collect_mem hexit s hsS
    have hf : FrOk ν ι0 mask nt (mkFr (ixs T s)) a1 := by
      refine mkFr_ok ?_ hd1 hs1 (hixs ν rfl rfl)
      simp only [keysOk, List.all_cons, Bool.and_eq_true] at hkey ⊢
      exact hkey.2
    have hhole : ∀ j y, (j, y) ∈ holes h x → HoleOk P ν w.heap.size w mask nt (fun _ : List LV => True) ι0 w1 y ((fun _ _ _ _ => none : HK (List LV)) j) := by
      intro j y _ fr σ k r a2 w2 ι hk
      cases hk
    refine wp_mono (runH_ok hC rfl (noPrims hC rfl hnum (fun _ => rfl) 1000 50) hnt x _ _ _ rl a1 w1 ι0 hhole hrl trivial (.refl _ _) (hRep ν w1 hbel) hf) ?_
    rintro e a' w' ⟨r', hr', o, fr', σ', ι', rfl, f1, f2, f3, f4⟩
    cases o with
    | normal => cases f4
    | exit id' =>
      have f4 : cond (Nat.beq id' T.xid) (some []) none = some r' := f4
      obtain ⟨k1, _⟩ := cond_some f4
      have := natBeq.1 k1
      subst this
      exact hQx a' w' f3.defers f3.size f2.below
    | ret => cases f4
end
end Go.Eng
