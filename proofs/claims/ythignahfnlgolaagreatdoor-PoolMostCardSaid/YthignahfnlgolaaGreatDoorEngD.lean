/- Regions that draw their order: what is looked at, and what order there is among the operations. Conditions: none. -/
import Derived.Test.YthignahfnlgolaaGreatDoorEngR
namespace Go.Eng
open Go.RowKit (Below)

/-! ## equal values -/
mutual
theorem LV.beq_eq : ∀ (a b : LV), LV.beq a b = true → a = b
  | .bool a, b, h => by
    cases b <;> simp only [LV.beq] at h <;> first | cases h | skip
    rename_i b; rw [beq_iff_eq] at h; rw [h]
  | .int k a, b, h => by
    cases b <;> simp only [LV.beq] at h <;> first | cases h | skip
    simp only [Bool.and_eq_true, kEq_iff, intEq_iff] at h; rw [h.1, h.2]
  | .sym k a, b, h => by
    cases b <;> simp only [LV.beq] at h <;> first | cases h | skip
    simp only [Bool.and_eq_true, kEq_iff] at h; rw [h.1, E.beq_eq h.2]
  | .str a, b, h => by
    cases b <;> simp only [LV.beq] at h <;> first | cases h | skip
    rename_i b
    have : ∀ (a b : List Nat), beqBytes a b = true → a = b := by
      intro a
      induction a with
      | nil => intro b h; cases b <;> first | rfl | cases h
      | cons x a ih =>
        intro b h
        cases b with
        | nil => cases h
        | cons y b =>
          simp only [beqBytes] at h
          cases e : Nat.beq x y with
          | true => rw [e, cond_true] at h; rw [natBeq.1 e, ih b h]
          | false => rw [e] at h; cases h
    rw [this a b h]
  | .ptr b o, c, h => by
    cases c <;> simp only [LV.beq] at h <;> first | cases h | skip
    simp only [Bool.and_eq_true, natBeq] at h; rw [h.1, h.2]
  | .nilptr, b, h => by cases b <;> simp only [LV.beq] at h <;> first | (cases h; done) | (cases h; rfl)
  | .slice s b o l c, d, h => by
    cases d <;> (try (simp only [LV.beq] at h; cases h; done))
    rename_i s' b' o' l' c'
    cases c <;> cases c' <;> simp only [LV.beq] at h <;> first | cases h | skip
    · simp only [Bool.and_eq_true, natBeq] at h; obtain ⟨⟨⟨h1, h2⟩, h3⟩, h4⟩ := h; rw [h1, h2, h3, h4]
    · simp only [Bool.and_eq_true, natBeq] at h; obtain ⟨⟨⟨⟨h1, h2⟩, h3⟩, h4⟩, h5⟩ := h; rw [h1, h2, h3, h4, h5]
  | .nilslice, b, h => by cases b <;> simp only [LV.beq] at h <;> first | (cases h; done) | (cases h; rfl)
  | .map a, b, h => by
    cases b <;> simp only [LV.beq] at h <;> first | cases h | skip
    rw [natBeq.1 h]
  | .nilmap, b, h => by cases b <;> simp only [LV.beq] at h <;> first | (cases h; done) | (cases h; rfl)
  | .nilFunc, b, h => by cases b <;> simp only [LV.beq] at h <;> first | (cases h; done) | (cases h; rfl)
  | .nilIface, b, h => by cases b <;> simp only [LV.beq] at h <;> first | (cases h; done) | (cases h; rfl)
  | .iface t a, b, h => by
    cases b <;> simp only [LV.beq] at h <;> first | cases h | skip
    simp only [Bool.and_eq_true, natBeq] at h; rw [h.1, LV.beq_eq a _ h.2]
  | .agg a, b, h => by
    cases b <;> simp only [LV.beq] at h <;> first | cases h | skip
    rw [LV.beqs_eq a _ h]
  | .tup a, b, h => by
    cases b <;> simp only [LV.beq] at h <;> first | cases h | skip
    rw [LV.beqs_eq a _ h]
  | .bad, b, h => by cases b <;> simp only [LV.beq] at h <;> cases h
  | .func .., b, h => by cases b <;> simp only [LV.beq] at h <;> cases h
theorem LV.beqs_eq : ∀ (a b : List LV), LV.beqs a b = true → a = b
  | [], b, h => by cases b <;> simp only [LV.beqs] at h <;> first | (cases h; done) | (cases h; rfl)
  | x :: a, b, h => by
    cases b <;> simp only [LV.beqs] at h <;> first | cases h | skip
    simp only [Bool.and_eq_true] at h; rw [LV.beq_eq x _ h.1, LV.beqs_eq a _ h.2]
end

/-! ## what is looked at -/
section
variable {R : Type} {C : Cfg} {loc : List LV} {fr fr' : Fr} {σ σ' : St}
theorem evs_congr {l : List X} (h : ∀ x ∈ l, ev loc fr x = ev loc fr' x) : evs loc fr l = evs loc fr' l := by
  rw [evs_eq, evs_eq]; exact List.map_congr_left h
theorem withIx_congr {x : Option X} (h : ∀ y ∈ xO x, ev loc fr y = ev loc fr' y) {d : Nat} {k : Nat → Option R} : withIx loc fr x d k = withIx loc fr' x d k := by
  cases x with
  | none => rfl
  | some x => simp only [withIx, h x (by simp [xO])]
theorem fillP_congr {k : List LV → Option R} : ∀ {ps : List (Nat × Nat × X)} {cells : List LV}, (∀ x ∈ xParts ps, ev loc fr x = ev loc fr' x) → fillP loc fr k ps cells = fillP loc fr' k ps cells
  | [], _, _ => rfl
  | (o, s, x) :: r, cells, h => by
    simp only [fillP, h x (by simp [xParts]), fillP_congr (ps := r) (fun y hy => h y (by simp [xParts, hy]))]
theorem runP_congr {p : PO} (h : ∀ x ∈ p.xs, ev loc fr x = ev loc fr' x) {k : LV → Option R} : runP C loc fr σ k p = runP C loc fr' σ k p := by
  cases p
  case mkf f a b =>
    simp only [PO.xs, List.mem_append] at h
    simp only [runP, evs_congr (fun x hx => h x (.inl hx)), evs_congr (fun x hx => h x (.inr hx))]
  case slcS x lo hi =>
    simp only [PO.xs, List.mem_cons, List.mem_append] at h
    simp only [runP, rSlcS, h x (.inl rfl), withIx_congr (fun y hy => h y (.inr (.inl hy))), withIx_congr (x := hi) (fun y hy => h y (.inr (.inr hy)))]
  case slc s x lo hi mx =>
    simp only [PO.xs, List.mem_cons, List.mem_append] at h
    have h1 : ∀ {d : Nat} {k : Nat → Option R}, withIx loc fr lo d k = withIx loc fr' lo d k := withIx_congr (fun y hy => h y (.inr (.inl hy)))
    have h2 : ∀ {d : Nat} {k : Nat → Option R}, withIx loc fr hi d k = withIx loc fr' hi d k := withIx_congr (fun y hy => h y (.inr (.inr (.inl hy))))
    cases mx with
    | none => simp only [runP, rSlc, h x (.inl rfl), h1, h2]
    | some m => simp only [runP, rSlc, slcMax, h x (.inl rfl), h1, h2, h m (.inr (.inr (.inr (by simp [xO]))))]
  case build z ps => simp only [runP]; exact fillP_congr h
  all_goals (simp only [PO.xs, List.mem_cons, List.not_mem_nil, or_false, forall_eq_or_imp, forall_eq] at h; simp only [runP, h])
theorem runP_still {p : PO} (h : readsMem p = false) {k : LV → Option R} : runP C loc fr σ k p = runP C loc fr σ' k p := by
  cases p <;> first | rfl | cases h
theorem runE_congr {rec : CallK R} {p : EO} (h : ∀ x ∈ p.xs, ev loc fr x = ev loc fr' x) {k : K R} : runE C rec loc fr σ k p = runE C rec loc fr' σ k p := by
  cases p
  case mkslice s z len ps => simp only [runE]; exact fillP_congr h
  case call f args =>
    have h : ∀ x ∈ args, ev loc fr x = ev loc fr' x := h
    simp only [runE, evs_congr h]
  case callv f args =>
    simp only [EO.xs, List.mem_cons, forall_eq_or_imp] at h
    simp only [runE, h.1, evs_congr h.2]
  all_goals (simp only [EO.xs, List.mem_cons, List.not_mem_nil, or_false, forall_eq_or_imp, forall_eq] at h; try simp only [runE, h])
theorem isVar_eq {t : Nat} {x : X} (h : isVar t x = true) : x = .var t := by
  cases x <;> simp only [isVar] at h <;> first | cases h | (rw [natBeq.1 h])
theorem anyX_mem {t : Nat} : ∀ {l : List X}, X.var t ∈ l → anyX t l = true
  | x :: r, h => by
    simp only [anyX, Bool.or_eq_true]
    cases h with
    | head => exact .inl (natBeq.2 rfl)
    | tail _ h => exact .inr (anyX_mem h)
/-- an operation yields the same at frames that agree where it looks -/
theorem stepO_congr {rec : CallV} {o : CO} (h : ∀ t, anyX t o.xs = true → fr.get t = fr'.get t) : stepO C rec o fr σ = stepO C rec o fr' σ := by
  have he : ∀ x ∈ o.xs, ev [] fr x = ev [] fr' x := by
    intro x hx
    cases x with
    | loc i => rfl
    | var t => show getV _ = getV _; rw [h t (anyX_mem hx)]
    | lit v => rfl
  cases o with
  | fail => rfl
  | p p => simp only [stepO]; rw [runP_congr he]
  | f e => simp only [stepO]; rw [runE_congr he]
end

/-! ## the order -/
theorem allB_iff {n : Nat} {f : Nat → Bool} : allB n f = true → ∀ i, i < n → f i = true := by
  induction n with
  | zero => intro _ i hi; omega
  | succ n ih =>
    intro h i hi
    have h : (f n && allB n f) = true := h
    simp only [Bool.and_eq_true] at h
    by_cases e : i = n
    · rw [e]; exact h.1
    · exact ih h.2 i (by omega)
theorem direct_mem {i : Nat} : ∀ {es : List Edge} {l : List Nat}, direct i es = some l → ∀ p ∈ l, ∃ e ∈ es, Region.binds .any e = true ∧ e.on = p ∧ p < i
  | [], l, h, p, hp => by simp only [direct] at h; cases h; cases hp
  | e :: r, l, h, p, hp => by
    simp only [direct] at h
    split at h
    · rename_i l' hl'
      cases hb : Region.binds .any e with
      | false =>
        rw [hb, cond_false] at h; cases h
        obtain ⟨e', h1, h2⟩ := direct_mem hl' p hp
        exact ⟨e', List.mem_cons_of_mem _ h1, h2⟩
      | true =>
        rw [hb, cond_true] at h
        cases hlt : Nat.blt e.on i with
        | false => rw [hlt] at h; cases h
        | true =>
          rw [hlt, cond_true] at h; cases h
          cases hp with
          | head => exact ⟨e, List.mem_cons_self .., hb, rfl, natBlt.1 hlt⟩
          | tail _ hp =>
            obtain ⟨e', h1, h2⟩ := direct_mem hl' p hp
            exact ⟨e', List.mem_cons_of_mem _ h1, h2⟩
    · cases h
theorem direct_less {i : Nat} : ∀ {es : List Edge} {l : List Nat}, direct i es = some l → ∀ e ∈ es, Region.binds .any e = true → e.on < i
  | [], l, h, e, he, _ => by cases he
  | x :: r, l, h, e, he, hb => by
    simp only [direct] at h
    split at h
    · rename_i l' hl'
      rcases List.mem_cons.1 he with he | he
      · rw [← he, hb, cond_true] at h
        cases hlt : Nat.blt e.on i with
        | false => rw [hlt] at h; cases h
        | true => exact natBlt.1 hlt
      · exact direct_less hl' e he hb
    · cases h
theorem union_bit {acc : List Nat} {k : Nat} : ∀ {l : List Nat}, (union acc l).testBit k = true → ∃ p ∈ l, p = k ∨ (acc.getD p 0).testBit k = true
  | [], h => by simp [union] at h
  | p :: r, h => by
    simp only [union] at h
    have h : ((1 <<< p ||| acc.getD p 0) ||| union acc r).testBit k = true := h
    rw [Nat.testBit_or, Nat.testBit_or] at h
    simp only [Bool.or_eq_true] at h
    rcases h with (h | h) | h
    · refine ⟨p, List.mem_cons_self .., .inl ?_⟩
      rw [Nat.one_shiftLeft, Nat.testBit_two_pow] at h
      exact of_decide_eq_true h
    · exact ⟨p, List.mem_cons_self .., .inr h⟩
    · obtain ⟨p', h1, h2⟩ := union_bit h
      exact ⟨p', List.mem_cons_of_mem _ h1, h2⟩
theorem cDOps_ok {P : Program} {mask nt : Nat} {ops : Array Oper} : ∀ {l : List Oper} {i : Nat} {acc : List Nat} {ds : List DOp}, cDOps P mask nt ops i acc l = some ds → acc.length = i →
    ds.length = l.length ∧ ∀ (j : Nat) (o : Oper), l[j]? = some o → ∃ d, ds[j]? = some d ∧ d.o = cOp P [] o.op ∧ d.d = o.dst ∧ guardD ops o.guard = some d.g ∧ keptD mask nt o.dst = true ∧ (∀ e ∈ o.after.toList, Region.binds .any e = true → e.on < i + j) ∧
      ∀ k, d.b.testBit k = true → ∃ e ∈ o.after.toList, Region.binds .any e = true ∧ e.on < i + j ∧ (e.on = k ∨ ((acc ++ ds.map (·.b)).getD e.on 0).testBit k = true)
  | [], i, acc, ds, h, ha => by
    simp only [cDOps] at h; cases h
    exact ⟨rfl, fun j o h => by simp at h⟩
  | o :: r, i, acc, ds, h, ha => by
    simp only [cDOps] at h
    split at h
    · rename_i l g hl hg
      obtain ⟨hk, h⟩ := cond_some h
      split at h
      · rename_i ds' hds
        cases h
        obtain ⟨h1, h2⟩ := cDOps_ok hds (by simp [ha])
        refine ⟨by simp [h1], ?_⟩
        intro j o' hj
        cases j with
        | zero =>
          simp only [List.getElem?_cons_zero, Option.some.injEq] at hj
          subst hj
          refine ⟨_, by simp; rfl, rfl, rfl, hg, hk, direct_less hl, ?_⟩
          intro k hb
          obtain ⟨p, hp, hpk⟩ := union_bit hb
          obtain ⟨e, e1, e2, e3, e4⟩ := direct_mem hl p hp
          subst e3
          refine ⟨e, e1, e2, e4, hpk.imp id fun q => ?_⟩
          rw [List.getD_eq_getElem?_getD, List.getElem?_append_left (by omega), ← List.getD_eq_getElem?_getD]
          exact q
        | succ j =>
          simp only [List.getElem?_cons_succ] at hj
          obtain ⟨d, d1, d2, d3, d4, d5, d7, d6⟩ := h2 j o' hj
          refine ⟨d, by simpa using d1, d2, d3, d4, d5, fun e he hb => (by have := d7 e he hb; omega), ?_⟩
          intro k hb
          obtain ⟨e, e1, e2, e3, e4⟩ := d6 k hb
          refine ⟨e, e1, e2, by omega, e4.imp id fun q => ?_⟩
          simpa [List.append_assoc] using q
      · cases h
    · cases h
structure DOk (P : Program) (mask nt : Nat) (ops : Array Oper) (ds : List DOp) (fl : Nat) : Prop where
  len : ds.length = ops.size
  at_ : ∀ i o, ops[i]? = some o → (atD ds i).o = cOp P [] o.op ∧ (atD ds i).d = o.dst ∧ guardD ops o.guard = some (atD ds i).g ∧ keptD mask nt o.dst = true
  less : ∀ i o, ops[i]? = some o → ∀ e ∈ o.after, Region.binds .any e = true → e.on < i
  preds : ∀ i o, ops[i]? = some o → ∀ k, (atD ds i).b.testBit k = true → ∃ e ∈ o.after, Region.binds .any e = true ∧ e.on < i ∧ (e.on = k ∨ (atD ds e.on).b.testBit k = true)
  pair : ∀ i k, i < ops.size → k < i → pairOk ds fl i k = true
  float : ∀ i, i < ops.size → floatOk ds fl i = true
  new : fl < ops.size → isNew (atD ds fl) = true
theorem cDraw_ok {P : Program} {mask nt : Nat} {ops : Array Oper} {ds : List DOp} {fl : Nat} (h : cDraw P mask nt ops = .dops ds fl) : DOk P mask nt ops ds fl := by
  unfold cDraw at h
  split at h
  · rename_i ds' hds
    cases hk : okDraw ds' (floatAt ds' 0 ds') with
    | false => rw [hk] at h; cases h
    | true =>
      rw [hk, cond_true] at h
      cases h
      obtain ⟨h1, h2⟩ := cDOps_ok hds rfl
      have hlen : ds.length = ops.size := by simpa using h1
      simp only [okDraw, Bool.and_eq_true] at hk
      obtain ⟨k1, k2⟩ := hk
      have k1 := allB_iff k1
      have hat : ∀ i o, ops[i]? = some o → ∃ d, atD ds i = d ∧ d.o = cOp P [] o.op ∧ d.d = o.dst ∧ guardD ops o.guard = some d.g ∧ keptD mask nt o.dst = true ∧ (∀ e ∈ o.after.toList, Region.binds .any e = true → e.on < i) ∧
          ∀ k, d.b.testBit k = true → ∃ e ∈ o.after.toList, Region.binds .any e = true ∧ e.on < i ∧ (e.on = k ∨ (atD ds e.on).b.testBit k = true) := by
        intro i o ho
        obtain ⟨d, d1, d2, d3, d4, d5, d7, d6⟩ := h2 i o (by simpa using ho)
        refine ⟨d, by simp [atD, List.getD_eq_getElem?_getD, d1], d2, d3, d4, d5, fun e he hb => (by have := d7 e he hb; omega), fun k hb => ?_⟩
        obtain ⟨e, e1, e2, e3, e4⟩ := d6 k hb
        refine ⟨e, e1, e2, by omega, e4.imp id fun q => ?_⟩
        have hi : i < ops.size := (Array.getElem?_eq_some_iff.1 ho).1
        have hlt : e.on < ds.length := by omega
        simp only [List.nil_append, List.getD_eq_getElem?_getD, List.getElem?_map] at q
        simp only [atD, List.getD_eq_getElem?_getD, List.getElem?_eq_getElem hlt, Option.map_some, Option.getD_some] at q ⊢
        exact q
      refine ⟨hlen, ?_, ?_, ?_, ?_, ?_, ?_⟩
      · intro i o ho
        obtain ⟨d, d1, d2, d3, d4, d5, _⟩ := hat i o ho
        rw [d1]; exact ⟨d2, d3, d4, d5⟩
      · intro i o ho e he hb
        obtain ⟨d, d1, _, _, _, _, d7, _⟩ := hat i o ho
        exact d7 e (by simpa using he) hb
      · intro i o ho k hb
        obtain ⟨d, d1, _, _, _, _, _, d6⟩ := hat i o ho
        rw [d1] at hb
        obtain ⟨e, e1, e2⟩ := d6 k hb
        exact ⟨e, by simpa using e1, e2⟩
      · intro i k hi hki
        have := k1 i (by omega)
        simp only [Bool.and_eq_true] at this
        exact allB_iff this.1 k hki
      · intro i hi
        have := k1 i (by omega)
        simp only [Bool.and_eq_true] at this
        exact this.2
      · intro hfl
        rcases Bool.or_eq_true _ _ ▸ k2 with q | q
        · have := natBle.1 q; omega
        · exact q
  · cases h

section
variable {P : Program} {mask nt : Nat} {ops : Array Oper} {ds : List DOp} {fl : Nat}
theorem DOk.clash (D : DOk P mask nt ops ds fl) {i k : Nat} (hi : i < ops.size) (hk : k < i) (h : clashD (atD ds k) (atD ds i) = true) : (atD ds i).b.testBit k = true := by
  have := D.pair i k hi hk
  unfold pairOk at this
  rw [h] at this
  simpa using this
theorem DOk.order (D : DOk P mask nt ops ds fl) {i k : Nat} (hi : i < ops.size) (hk : k < i) (h1 : isE (atD ds k).o = true) (h2 : isE (atD ds i).o = true) (hne : i ≠ fl) : (atD ds i).b.testBit k = true := by
  have := D.pair i k hi hk
  unfold pairOk at this
  have e : Nat.beq i fl = false := by
    cases q : Nat.beq i fl with
    | false => rfl
    | true => exact absurd (natBeq.1 q) hne
  rw [h1, h2, e] at this
  simpa using this
theorem DOk.behind (D : DOk P mask nt ops ds fl) {i : Nat} (hi : i < ops.size) (hf : fl < i) (hb : (atD ds i).b.testBit fl = true) : ∀ k, k < fl → isE (atD ds k).o = true → (atD ds i).b.testBit k = true := by
  intro k hk he
  have := D.float i hi
  unfold floatOk at this
  rw [natBlt.2 hf, hb] at this
  simp only [Bool.and_self, Bool.not_true, Bool.false_or] at this
  have := allB_iff this k hk
  rw [he] at this
  simpa using this
theorem DOk.isNew (D : DOk P mask nt ops ds fl) (hf : fl < ops.size) : (atD ds fl).o = .f .mkmap ∧ (atD ds fl).g = none := by
  have := D.new hf
  simp only [Eng.isNew, Bool.and_eq_true] at this
  obtain ⟨h1, h2⟩ := this
  refine ⟨?_, by simpa using h2⟩
  generalize (atD ds fl).o = o at h1
  unfold isMk at h1
  split at h1
  · rfl
  · cases h1
end
end Go.Eng
