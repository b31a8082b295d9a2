/- The symbolic executor's regions follow the model's, in the order of the text. Conditions: none. -/
import Derived.Test.YthignahfnlgolaaGreatDoorEngX
namespace Go.Eng
section
variable {ν : Nat → Int} {base : Nat} {W w : World} {σ : St} {ι ι' : Inj} {R : Type} {P : Program} {C : Cfg}

/-- the temporaries that are kept -/
structure FrOk (ν : Nat → Int) (ι : Inj) (mask nt : Nat) (fr : Fr) (a : Act) : Prop where
  defers : a.defers = []
  size : nt ≤ a.tmps.size
  vals : ∀ t v, fr.get t = some v → VR ν ι v (a.tmps.getD t undef)
  dom : ∀ t v, fr.get t = some v → Nat.testBit mask t = true
/-- the temporaries of a region -/
def LocOk (ν : Nat → Int) (ι : Inj) (env : Env) (loc : List LV) (a : Act) : Prop := ∀ t i, find t env 0 = some i → VR ν ι (nth i loc) (a.tmps.getD t undef)
theorem FrOk.mono {mask nt : Nat} {fr : Fr} {a : Act} (h : FrOk ν ι mask nt fr a) (hi : ι.le ι') : FrOk ν ι' mask nt fr a :=
  ⟨h.defers, h.size, fun t v ht => (h.vals t v ht).mono hi, h.dom⟩
theorem LocOk.mono {env : Env} {loc : List LV} {a : Act} (h : LocOk ν ι env loc a) (hi : ι.le ι') : LocOk ν ι' env loc a := fun t i ht => (h t i ht).mono hi
theorem find_shift (t : Nat) : ∀ (env : Env) (i : Nat), find t env (i + 1) = (find t env i).map (· + 1)
  | [], _ => rfl
  | some d :: r, i => by
    simp only [find]
    cases Nat.beq d t with
    | true => rfl
    | false => exact find_shift t r (i + 1)
  | none :: r, i => by simp only [find]; exact find_shift t r (i + 1)
theorem HX_of {mask nt : Nat} {fr : Fr} {env : Env} {loc : List LV} {a : Act} (hf : FrOk ν ι mask nt fr a) (hl : LocOk ν ι env loc a) (x : Operand) : VR ν ι (ev loc fr (cX env x)) (a.eval x) := by
  cases x with
  | tmp t =>
    simp only [cX]
    cases e : find t env 0 with
    | some i => exact hl t i e
    | none =>
      show VR ν ι (getV (fr.get t)) _
      cases e2 : fr.get t with
      | some v => exact hf.vals t v e2
      | none => show VR ν ι .bad _; simp only [VR]
  | const v => exact ofValue_VR v
  | global g => show VR ν ι .bad _; simp only [VR]
  | func f => show VR ν ι (.func f [] []) (.func (.func f) #[] #[]); simp only [VR]; exact ⟨_, _, rfl, VRs_nil, VRs_nil⟩
theorem put_get {a : Act} {d t : Nat} {u : Value} (h : d < a.tmps.size) : (a.put (some d) u).tmps.getD t undef = if t = d then u else a.tmps.getD t undef := by
  simp only [Act.put, Array.getD_eq_getD_getElem?, Array.getElem?_setIfInBounds]
  by_cases e : t = d
  · subst e; simp [h]
  · rw [if_neg (fun q => e q.symm), if_neg e]
theorem LocOk.put {env : Env} {loc : List LV} {a : Act} (h : LocOk ν ι env loc a) {dst : Option Tmp} (hd : ∀ d, dst = some d → d < a.tmps.size) {x : LV} {u : Value} (hx : VR ν ι x u) : LocOk ν ι (dst :: env) (x :: loc) (a.put dst u) := by
  intro t i ht
  cases dst with
  | none =>
    simp only [find, find_shift t env 0] at ht
    cases e : find t env 0 with
    | none => rw [e] at ht; cases ht
    | some j => rw [e] at ht; cases ht; exact h t j e
  | some d =>
    rw [put_get (hd d rfl)]
    simp only [find] at ht
    cases e : Nat.beq d t with
    | true =>
      rw [e, cond_true] at ht; cases ht
      rw [if_pos (natBeq.1 e).symm]
      exact hx
    | false =>
      rw [e, cond_false, find_shift t env 0] at ht
      have hne : t ≠ d := fun q => by rw [q, Nat.beq_refl] at e; cases e
      rw [if_neg hne]
      cases e2 : find t env 0 with
      | none => rw [e2] at ht; cases ht
      | some j => rw [e2] at ht; cases ht; exact h t j e2
theorem FrOk.put {mask nt : Nat} (hnt : nt ≤ 100000) {fr : Fr} {a : Act} (h : FrOk ν ι mask nt fr a) {dst : Option Tmp} (hd : ∀ d, dst = some d → d < nt) {x : LV} {u : Value} (hx : VR ν ι x u) :
    FrOk ν ι mask nt (keepV fr x (keepIn mask dst)) (a.put dst u) := by
  cases dst with
  | none => exact h
  | some d =>
    have hdn := hd d rfl
    have hda : d < a.tmps.size := Nat.lt_of_lt_of_le hdn h.size
    have hsz : (a.put (some d) u).tmps.size = a.tmps.size := by simp [Act.put]
    simp only [keepIn]
    cases e : Nat.testBit mask d with
    | true =>
      have hg : ∀ j, (fr.set d (some x)).get j = if j = d then some x else fr.get j := fun j => Tr.get_set _ _ _ _ (Nat.le_trans (Nat.le_of_lt hdn) (by omega))
      refine ⟨h.defers, by rw [hsz]; exact h.size, ?_, ?_⟩
      · intro t v ht
        have ht : (fr.set d (some x)).get t = some v := ht
        rw [hg] at ht
        rw [put_get hda]
        by_cases q : t = d
        · rw [if_pos q] at ht; cases ht; rw [if_pos q]; exact hx
        · rw [if_neg q] at ht; rw [if_neg q]; exact h.vals t v ht
      · intro t v ht
        have ht : (fr.set d (some x)).get t = some v := ht
        rw [hg] at ht
        by_cases q : t = d
        · rw [q]; exact e
        · rw [if_neg q] at ht; exact h.dom t v ht
    | false =>
      refine ⟨h.defers, by rw [hsz]; exact h.size, ?_, h.dom⟩
      intro t v ht
      have ht : fr.get t = some v := ht
      rw [put_get hda]
      have q : t ≠ d := fun q => by have := h.dom t v ht; rw [q, e] at this; cases this
      rw [if_neg q]; exact h.vals t v ht
theorem inside_ok {nt : Nat} {dst : Option Tmp} (h : inside nt dst = true) : ∀ d, dst = some d → d < nt := by
  intro d e; subst e; exact natBlt.1 h

/-- is an operation wanted? -/
theorem isB_ok {ops : Array Oper} {a : Act} {o : Oper} {j d : Nat} {want : Bool} (hg : o.guard = some (j, want)) (hj : (ops[j]?).bind (·.dst) = some d) {g : LV} (hx : VR ν ι g (a.tmps.getD d undef)) {k : Bool → Option R} {r : R}
    (hk : isB g want k = some r) : ∃ b, Region.wanted o (yielded ops a.tmps) = b ∧ k b = some r := by
  unfold isB at hk
  split at hk
  · rename_i b
    simp only [VR] at hx
    refine ⟨_, ?_, hk⟩
    have hd : a.tmps[d]? = some (.bool b) := by
      rw [Array.getD_eq_getD_getElem?] at hx
      cases e : a.tmps[d]? with
      | none => rw [e] at hx; cases hx
      | some v => rw [e] at hx; exact congrArg some hx
    simp only [Region.wanted, hg, yielded, hj, Option.bind_some, hd]
    cases want <;> cases b <;> rfl
  · simp only [VR] at hx
    obtain ⟨vs, hx, hv⟩ := hx
    refine ⟨false, ?_, hk⟩
    simp only [Region.wanted, hg, yielded, hj, Option.bind_some]
    cases e : a.tmps[d]? with
    | none => rfl
    | some v =>
      rw [Array.getD_eq_getD_getElem?, e] at hx
      simp only [Option.getD_some] at hx
      subst hx; rfl
  · cases hk

/-- what holds behind a piece of code -/
def After (ν : Nat → Int) (base : Nat) (W : World) (mask nt : Nat) (ι : Inj) (w : World) (k : Fr → St → Option R) (r : R) (a : Act) (w' : World) : Prop :=
  ∃ fr σ ι', Step ι w ι' w' ∧ Rep ν base W σ ι' w' ∧ FrOk ν ι' mask nt fr a ∧ k fr σ = some r
theorem upon_of {o : Oper} {a : Act} {next : Act → World → Prop} {Q : Exit → Act → World → Prop} {k : K R} {r : R} {res : Result Next} (h : ERes P ν base W ι w k r res)
    (hn : ∀ u w', Post ν base W ι w k r u w' → next (a.put o.dst u) w') : o.upon P a next Q res := by
  cases res with
  | ok x w' =>
    cases x
    case value u => exact hn u w' h
    case skip => exact hn _ w' h
    case enter f args =>
      refine Calls.mono h fun e w'' he => ?_
      obtain ⟨u, rfl, hp⟩ := he
      exact hn u w'' hp
    all_goals exact h.elim
  | halt => exact h.elim
theorem runCR_ok (hC : C.Holds ν) (hP : C.P = P) {rec : CallK R} (hrec : CallOk P ν base W (callF C rec)) {mask nt : Nat} (hnt : nt ≤ 100000) {ops : Array Oper} {kk : Fr → St → Option R} {r : R} {Q : Exit → Act → World → Prop} {ι0 : Inj} {w0 : World}
    (hQ : ∀ a w', After ν base W mask nt ι0 w0 kk r a w' → Q .normal a w') :
    ∀ (rest : List Oper) (n : Nat) (env : Env) (loc : List LV) (fr : Fr) (σ : St) (ι : Inj) (a : Act) (w : World), ops.toList.drop n = rest →
      runCR C rec kk (cOps P mask nt ops env rest) loc fr σ = some r → Step ι0 w0 ι w → Rep ν base W σ ι w → FrOk ν ι mask nt fr a → LocOk ν ι env loc a → wpOps P ops Q (List.range' n rest.length) a w
  | [], n, env, loc, fr, σ, ι, a, w, _, hk, hs, H, hf, _ => hQ a w ⟨fr, σ, ι, hs, H, hf, hk⟩
  | o :: rest, n, env, loc, fr, σ, ι, a, w, hd, hk, hs, H, hf, hl => by
    have hrest : ops.toList.drop (n + 1) = rest := by rw [← List.drop_drop, hd]; rfl
    have ho : ops[n]? = some o := by
      have : (ops.toList.drop n)[0]? = some o := by rw [hd]; rfl
      rw [List.getElem?_drop] at this
      simpa using this
    have ih := runCR_ok (ops := ops) hC hP hrec hnt hQ rest (n + 1) (o.dst :: env)
    have hHX := HX_of hf hl
    simp only [cOps] at hk
    cases hin : inside nt o.dst with
    | false => rw [hin] at hk; cases hk
    | true =>
      rw [hin, cond_true] at hk
      have hins := inside_ok hin
      have hins' : ∀ d, o.dst = some d → d < a.tmps.size := fun d e => Nat.lt_of_lt_of_le (hins d e) hf.size
      have hexec : ∀ {hkk : runCO C rec loc fr σ (fun v σ => runCR C rec kk (cOps P mask nt ops (o.dst :: env) rest) (v :: loc) (keepV fr v (keepIn mask o.dst)) σ) (cOp P env o.op) = some r},
          o.wp P a w (wpOps P ops Q (List.range' (n + 1) rest.length)) Q := by
        intro hkk
        refine upon_of (CO_ok H hC hP hrec hHX (fun _ => rfl) hkk) fun u w' hp => ?_
        obtain ⟨x, σ', ι', h1, h2, h3, h4⟩ := hp
        exact ih (x :: loc) _ σ' ι' _ w' hrest h4 (hs.trans h1) h2 ((hf.mono h1.le).put hnt hins h3) ((hl.mono h1.le).put hins' h3)
      show wpOps P ops Q (n :: List.range' (n + 1) rest.length) a w
      simp only [wpOps, ho]
      split at hk
      · rename_i hg
        have hw : Region.wanted o (yielded ops a.tmps) = true := by simp only [Region.wanted, hg]
        rw [if_pos hw]
        exact .inl (hexec (hkk := hk))
      · rename_i j want hg
        split at hk
        · rename_i d hj
          have hk : isB (ev loc fr (cX env (.tmp d))) want (fun b => cond b
              (runCO C rec loc fr σ (fun v σ => runCR C rec kk (cOps P mask nt ops (o.dst :: env) rest) (v :: loc) (keepV fr v (keepIn mask o.dst)) σ) (cOp P env o.op))
              (runCR C rec kk (cOps P mask nt ops (o.dst :: env) rest) (.tup [] :: loc) (keepV fr (.tup []) (keepIn mask o.dst)) σ)) = some r := hk
          obtain ⟨b, hb, hk⟩ := isB_ok (a := a) hg hj (hHX (.tmp d)) hk
          cases b with
          | true => rw [if_pos hb]; exact .inl (hexec (hkk := hk))
          | false =>
            rw [if_neg (by rw [hb]; simp)]
            exact ih (.tup [] :: loc) _ σ ι _ w hrest hk hs H (hf.put hnt hins VR_undef) (hl.put hins' VR_undef)
        · cases hk
theorem region_ok (hC : C.Holds ν) (hP : C.P = P) {rec : CallK R} (hrec : CallOk P ν base W (callF C rec)) {mask nt : Nat} (hnt : nt ≤ 100000) {ops : Array Oper} {kk : Fr → St → Option R} {r : R} {Q : Exit → Act → World → Prop} {id : Nat} {fr : Fr} {a : Act}
    (hQ : ∀ a w', After ν base W mask nt ι w kk r a w' → Q .normal a w') (hk : runCR C rec kk (cOps P mask nt ops [] ops.toList) [] fr σ = some r) (H : Rep ν base W σ ι w) (hf : FrOk ν ι mask nt fr a) :
    (Code.region id ops false).wp P Q a w := by
  apply wp_region
  rw [List.range_eq_range']
  have := runCR_ok hC hP hrec hnt hQ ops.toList 0 [] [] fr σ ι a w rfl hk (.refl _ _) H hf (fun t i h => by cases h)
  simpa using this
end
end Go.Eng
