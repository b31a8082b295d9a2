/- Regions that draw their order follow the model's. Conditions: none. -/
import Derived.Test.YthignahfnlgolaaGreatDoorEngD4
namespace Go.Eng
open Go.RowKit (Below)
section
variable {ν : Nat → Int} {base : Nat} {W : World} {P : Program} {C : Cfg} {mask nt : Nat} {ops : Array Oper} {ds : List DOp} {fl : Nat} {rec : CallV} {ι0 : Inj} {w0 : World} {fr0 : Fr} {v : Nat → LV} {S : Nat → St} {Q : Exit → Act → World → Prop}
def add (L : Nat → Bool) (i : Nat) : Nat → Bool := fun j => if j = i then true else L j

/-- the one new map is made -/
theorem step_new (D : DOk P mask nt ops ds fl) (T : TOk C rec ops ds fr0 v S) (hnt : nt ≤ 100000) (hbase : base ≤ w0.heap.size) {L : Nat → Bool} {q : Nat} {ι : Inj} {a : Act} {w : World} (I : DInv ν base W mask nt ops ds fl ι0 w0 fr0 v S L q ι a w)
    {o : Oper} (ho : ops[fl]? = some o) (hLi : L fl = false) (hpre : ∀ k, (atD ds fl).b.testBit k = true → L k = true) {K : Act → World → Prop}
    (hK : ∀ a' w' q' ι', DInv ν base W mask nt ops ds fl ι0 w0 fr0 v S (add L fl) q' ι' a' w' → Settled ops ds fl (add L fl) q' → K a' w') : wpOp P ops Q fl K a w := by
  have hfl : fl < ops.size := (Array.getElem?_eq_some_iff.1 ho).1
  obtain ⟨n1, n2⟩ := D.isNew hfl
  obtain ⟨d1, d2, d3, d4⟩ := D.at_ fl o ho
  have hg : o.guard = none := by
    rw [n2] at d3
    cases e : o.guard with
    | none => rfl
    | some g =>
      obtain ⟨j, b⟩ := g
      rw [e] at d3
      simp only [guardD] at d3
      split at d3 <;> cases d3
  obtain ⟨t, hop⟩ := mk_inv (n1 ▸ d1).symm
  have hrun : (execOp a.eval o).run P w = .ok (.value (.map (some w.heap.size))) (w.alloc (.map #[] 0)) := by
    obtain ⟨dst, op, ty, pos, aft, gd⟩ := o
    simp only at hop; subst hop
    have e : execOp a.eval ⟨dst, .makeMap t none, ty, pos, aft, gd⟩ = (do pure (.value (← Instr.makeMap t none))) := rfl
    rw [e]; simp [Instr.makeMap]
  have hq : q ≤ fl := by
    rcases Nat.lt_or_ge fl q with h | h
    · have := I.fl1 hfl h; rw [hLi] at this; cases this
    · exact h
  unfold wpOp
  rw [ho]
  have hw : Region.wanted o (yielded ops a.tmps) = true := by simp only [Region.wanted, hg]
  simp only
  rw [if_pos hw]
  refine .inl ?_
  show o.upon P a K Q _
  rw [hrun, Oper.upon_value]
  obtain ⟨r1, r2⟩ := I.rep.alloc_unknown (.map #[] 0)
  have I2 : DInv ν base W mask nt ops ds fl ι0 w0 fr0 v S (add L fl) q ι (a.put o.dst (.map (some w.heap.size))) (w.alloc (.map #[] 0)) := by
    refine ⟨I.step.trans r2, r1, I.qn, I.canon, ?_, ?_, fun _ h => by omega, ?_, ?_⟩
    · intro i hi h k hb
      unfold add at h ⊢
      by_cases e : i = fl
      · subst e; rw [hpre k hb]; simp
      · rw [if_neg e] at h; rw [I.closed i hi h k hb]; simp
    · intro k hk he hne
      unfold add
      rw [if_neg hne]; exact I.sync k hk he hne
    · intro _ _ _
      refine ⟨w.heap.size, I.step.size, by simp, by show (w.heap.push _)[w.heap.size]? = _; simp, fun b B hb => by have := I.rep.blk b B hb; omega, ?_⟩
      intro t ht
      rw [d2] at ht
      have hlt : t < a.tmps.size := Nat.lt_of_lt_of_le (D.kept hfl (by rw [d2]; exact ht)).1 I.fro.size
      rw [ht, put_get hlt, if_pos rfl]
    · refine fro_put D hnt I.fro (ι.le_refl) I.closed hfl hLi ho (x := .bad) (by simp only [VR]) ?_ (fun k _ _ => rfl)
      unfold vq; rw [if_pos ⟨rfl, hq⟩]
  obtain ⟨q', ι', I3, hs⟩ := I2.settle D T hnt hbase
  exact hK _ _ _ _ I3 hs

/-- who is ready, and not the one new map, looks at what the run in text order saw -/
theorem agree (D : DOk P mask nt ops ds fl) (hnt : nt ≤ 100000) {L : Nat → Bool} {q : Nat} (closed : ∀ i, i < ops.size → L i = true → ∀ k, (atD ds i).b.testBit k = true → L k = true) (hs : Settled ops ds fl L q) {i : Nat} (hi : i < ops.size) (hLi : L i = false)
    (hpre : ∀ k, (atD ds i).b.testBit k = true → L k = true) (t : Nat) (ht : (atD ds i).looks t = true) : (frOf ds fr0 (vq fl v q) L ops.size).get t = (frOf ds fr0 v (fun _ => true) i).get t := by
  refine frOf_agree (D.dst hnt) (Nat.le_of_lt hi) ?_ ?_
  · intro k hk hd
    have hc : clashD (atD ds k) (atD ds i) = true := by simp only [clashD, writesInto, hd, ht, Bool.true_or]
    have hb := D.clash hi hk hc
    refine ⟨hpre k hb, rfl, ?_⟩
    unfold vq
    by_cases e : k = fl ∧ q ≤ fl
    · obtain ⟨rfl, hq⟩ := e
      obtain ⟨j, h1, h2, h3⟩ := hs (by omega) (hpre k hb) hq
      have := hpre j (D.behind hi hk hb j h1 h2)
      rw [h3] at this; cases this
    · rw [if_neg e]
  · intro k hk hk2 hd
    by_cases e : k = i
    · subst e; exact hLi
    · have hc : clashD (atD ds i) (atD ds k) = true := by simp only [clashD, writesInto, hd, ht, Bool.true_or, Bool.or_true]
      have hb := D.clash hk2 (by omega) hc
      cases h : L k with
      | false => rfl
      | true => have := closed k hk2 h i hb; rw [hLi] at this; cases this

theorem VR_of {ι : Inj} {fr : Fr} {a : Act} (hF : FrOk ν ι mask nt fr a) (t : Nat) : VR ν ι (getV (fr.get t)) (a.tmps.getD t undef) := HX_of (env := []) (loc := []) hF (fun t i h => by cases h) (.tmp t)

/-- is it wanted? as in the run in text order -/
theorem wanted_as (D : DOk P mask nt ops ds fl) (T : TOk C rec ops ds fr0 v S) {fr : Fr} {ι : Inj} {a : Act} (hF : FrOk ν ι mask nt fr a) {i : Nat} {o : Oper} (ho : ops[i]? = some o) (hag : ∀ t, (atD ds i).looks t = true → fr.get t = (frOf ds fr0 v (fun _ => true) i).get t) :
    (Region.wanted o (yielded ops a.tmps) = true ∧ wantedD (atD ds i) (frOf ds fr0 v (fun _ => true) i) = true ∧ stepO C rec (atD ds i).o (frOf ds fr0 v (fun _ => true) i) (S i) = some (v i, S (i + 1))) ∨
    (Region.wanted o (yielded ops a.tmps) = false ∧ v i = .tup [] ∧ S (i + 1) = S i) := by
  have hi : i < ops.size := (Array.getElem?_eq_some_iff.1 ho).1
  obtain ⟨d1, d2, d3, d4⟩ := D.at_ i o ho
  have ht := T.text i hi
  unfold stepD at ht
  cases hgd : (atD ds i).g with
  | none =>
    rw [hgd] at ht d3
    have hg : o.guard = none := by
      cases e : o.guard with
      | none => rfl
      | some g =>
        obtain ⟨j, b⟩ := g
        rw [e] at d3
        simp only [guardD] at d3
        split at d3 <;> cases d3
    exact .inl ⟨by simp only [Region.wanted, hg], by simp only [wantedD, hgd], ht⟩
  | some g =>
    obtain ⟨t, wnt⟩ := g
    rw [hgd] at ht d3
    simp only at ht
    obtain ⟨j, hg, hj⟩ : ∃ j, o.guard = some (j, wnt) ∧ (ops[j]?).bind (·.dst) = some t := by
      cases e : o.guard with
      | none => rw [e] at d3; simp only [guardD] at d3; cases d3
      | some g =>
        obtain ⟨j, b⟩ := g
        rw [e] at d3
        simp only [guardD] at d3
        split at d3
        · rename_i d hd; cases d3; exact ⟨j, rfl, hd⟩
        · cases d3
    have hx := VR_of hF t
    have e1 : fr.get t = (frOf ds fr0 v (fun _ => true) i).get t := hag t (by simp only [DOp.looks, hgd, natBeq.2 rfl, Bool.true_or])
    rw [e1] at hx
    obtain ⟨b, hb, hk⟩ := isB_ok hg hj hx ht
    obtain ⟨b', hb', hk'⟩ := isB_some ht
    cases b with
    | true =>
      refine .inl ⟨hb, ?_, hk⟩
      rcases hb' with h | ⟨h, h2⟩
      · rw [h] at hx
        simp only [VR] at hx
        have : b' = true := by
          have : Region.wanted o (yielded ops a.tmps) = b' := by
            have ht2 : a.tmps[t]? = some (.bool (cond wnt b' (!b'))) := by
              rw [Array.getD_eq_getD_getElem?] at hx
              cases q : a.tmps[t]? with
              | none => rw [q] at hx; cases hx
              | some y => rw [q] at hx; exact congrArg some hx
            simp only [Region.wanted, hg, yielded, hj, Option.bind_some, ht2]
            cases wnt <;> cases b' <;> rfl
          rw [← this, hb]
        subst this
        simp only [wantedD, hgd, h]
        cases wnt <;> rfl
      · subst h2
        rw [h] at hx
        simp only [VR] at hx
        obtain ⟨vs, hx, hv⟩ := hx
        simp only [Region.wanted, hg, yielded, hj, Option.bind_some] at hb
        rw [Array.getD_eq_getD_getElem?] at hx
        cases q : a.tmps[t]? with
        | none => rw [q] at hb; cases wnt <;> cases hb
        | some y => rw [q] at hx hb; simp only [Option.getD_some] at hx; subst hx; cases wnt <;> cases hb
    | false =>
      have hk : some (LV.tup [], S i) = some (v i, S (i + 1)) := hk
      have := Option.some.inj hk
      exact .inr ⟨hb, (congrArg Prod.fst this).symm, (congrArg Prod.snd this).symm⟩

theorem allB_of {n : Nat} {f : Nat → Bool} (h : ∀ k, k < n → f k = true) : allB n f = true := by
  induction n with
  | zero => rfl
  | succ n ih =>
    show (f n && allB n f) = true
    rw [h n (by omega), ih fun k hk => h k (by omega)]; rfl
theorem bits_lt (D : DOk P mask nt ops ds fl) : ∀ {i : Nat}, i < ops.size → ∀ k, (atD ds i).b.testBit k = true → k < i := by
  intro i
  induction i using Nat.strongRecOn with
  | _ i ih =>
    intro hi k hb
    obtain ⟨e, _, _, h1, h2⟩ := D.preds i ops[i] (Array.getElem?_eq_getElem hi) k hb
    rcases h2 with h2 | h2
    · omega
    · have := ih e.on h1 (by omega) k h2; omega

/-- any other -/
theorem step_other (hC : C.Holds ν) (hP : C.P = P) (hrec : CallOk P ν base W (callF C rec)) (D : DOk P mask nt ops ds fl) (T : TOk C rec ops ds fr0 v S) (hnt : nt ≤ 100000) (hbase : base ≤ w0.heap.size) {L : Nat → Bool} {q : Nat} {ι : Inj} {a : Act} {w : World}
    (I : DInv ν base W mask nt ops ds fl ι0 w0 fr0 v S L q ι a w) (hs : Settled ops ds fl L q) {i : Nat} (hne : i ≠ fl)
    {o : Oper} (ho : ops[i]? = some o) (hLi : L i = false) (hpre : ∀ k, (atD ds i).b.testBit k = true → L k = true) {K : Act → World → Prop}
    (hK : ∀ a' w' q' ι', DInv ν base W mask nt ops ds fl ι0 w0 fr0 v S (add L i) q' ι' a' w' → Settled ops ds fl (add L i) q' → K a' w') : wpOp P ops Q i K a w := by
  have hi : i < ops.size := (Array.getElem?_eq_some_iff.1 ho).1
  obtain ⟨d1, d2, d3, d4⟩ := D.at_ i o ho
  have hag := agree (fr0 := fr0) (v := v) D hnt I.closed hs hi hLi hpre
  have hwant := wanted_as D T I.fro ho hag
  -- pending: not for whom is ready behind it
  have hflpre : (atD ds i).b.testBit fl = true → fl < i → fl < q := by
    intro hb hlt
    rcases Nat.lt_or_ge fl q with h | h
    · exact h
    · obtain ⟨j, h1, h2, h3⟩ := hs (by omega) (hpre fl hb) h
      have := hpre j (D.behind hi hlt hb j h1 h2)
      rw [h3] at this; cases this
  have closed2 : ∀ j, j < ops.size → add L i j = true → ∀ k, (atD ds j).b.testBit k = true → add L i k = true := by
    intro j hj h k hb
    unfold add at h ⊢
    by_cases e : j = i
    · subst e; rw [hpre k hb]; simp
    · rw [if_neg e] at h; rw [I.closed j hj h k hb]; simp
  -- what becomes of the one new map's place
  have pend2 : ∀ {ι' : Inj} {u : Value} {w' : World}, Step ι w ι' w' → fl < ops.size → L fl = true → q ≤ fl → Pend ds fl w0 ι' (a.put o.dst u) w' := by
    intro ι' u w' hst hf hL hq
    obtain ⟨blk, b1, b2, b3, b4, b5⟩ := I.fl2 hf hL hq
    refine ⟨blk, b1, Nat.lt_of_lt_of_le b2 hst.size, ?_, ?_, ?_⟩
    · rw [hst.old blk b2 (fun b B hB => b4 b B hB)]; exact b3
    · intro b B hB
      cases e : ι b with
      | some B' => have := hst.le _ _ e; rw [this] at hB; cases hB; exact b4 _ _ e
      | none =>
        rcases hst.new b B hB e with h | ⟨b', B', h1, h2⟩
        · omega
        · rw [← h2]; exact b4 _ _ h1
    · intro t ht
      have hnd : o.dst ≠ some t := by
        intro hd
        have hdi : (atD ds i).d = some t := by rw [d2]; exact hd
        rcases Nat.lt_or_gt_of_ne hne with hlt | hlt
        · have hc : clashD (atD ds i) (atD ds fl) = true := by simp only [clashD, writesInto, hdi, ht, natBeq.2 rfl, Bool.or_true, Bool.true_or]
          have := I.closed fl hf hL i (D.clash hf hlt hc)
          rw [hLi] at this; cases this
        · have hc : clashD (atD ds fl) (atD ds i) = true := by simp only [clashD, writesInto, hdi, ht, natBeq.2 rfl, Bool.or_true, Bool.true_or]
          have := hflpre (D.clash hi hlt hc) hlt
          omega
      cases hd : o.dst with
      | none => exact b5 t ht
      | some t' =>
        have hlt : t' < a.tmps.size := Nat.lt_of_lt_of_le (D.kept hi (by rw [d2]; exact hd)).1 I.fro.size
        rw [put_get hlt, if_neg (fun e => hnd (by rw [hd, e]))]
        exact b5 t ht
  have vqi : ∀ q', vq fl v q' i = v i := fun q' => by unfold vq; rw [if_neg (fun h => hne h.1)]
  -- a step that leaves the state as it is
  have calm : ∀ {x : LV} {u : Value}, isE (atD ds i).o = false → x = v i → VR ν ι x u → K (a.put o.dst u) w := by
    intro x u he hx hv
    have I2 : DInv ν base W mask nt ops ds fl ι0 w0 fr0 v S (add L i) q ι (a.put o.dst u) w := by
      refine ⟨I.step, I.rep, I.qn, I.canon, closed2, ?_, ?_, ?_, ?_⟩
      · intro k hk hek hkf
        have hki : k ≠ i := fun e => by rw [e, he] at hek; cases hek
        unfold add; rw [if_neg hki]; exact I.sync k hk hek hkf
      · intro hf hq
        unfold add; rw [I.fl1 hf hq]; simp
      · intro hf hL hq
        unfold add at hL; rw [if_neg (fun e => hne e.symm)] at hL
        exact pend2 (.refl _ _) hf hL hq
      · exact fro_put D hnt I.fro ι.le_refl I.closed hi hLi ho hv (by rw [vqi, hx]) (fun _ _ _ => rfl)
    obtain ⟨q', ι', I3, hs'⟩ := I2.settle D T hnt hbase
    exact hK _ _ _ _ I3 hs'
  -- a step of one that writes
  have hSq : isE (atD ds i).o = true → q ≤ i ∧ S i = S q := by
    intro he
    have hqi : q ≤ i := by
      rcases Nat.lt_or_ge i q with h | h
      · have := (I.sync i hi he hne).2 h; rw [hLi] at this; cases this
      · exact h
    refine ⟨hqi, T.stills hqi (Nat.le_of_lt hi) fun k h1 h2 => ?_⟩
    cases e : isE (atD ds k).o with
    | false => rfl
    | true =>
      have hb := D.order hi h2 e he hne
      by_cases hk : k = fl
      · subst hk; have := hflpre hb h2; omega
      · have := (I.sync k (by omega) e hk).1 (hpre k hb); omega
  have wild : ∀ {u : Value} {w' : World} {ι' : Inj}, isE (atD ds i).o = true → Step ι w ι' w' → Rep ν base W (S (i + 1)) ι' w' → VR ν ι' (v i) u → K (a.put o.dst u) w' := by
    intro u w' ι' he hst hrep hv
    obtain ⟨hqi, _⟩ := hSq he
    have I2 : DInv ν base W mask nt ops ds fl ι0 w0 fr0 v S (add L i) (i + 1) ι' (a.put o.dst u) w' := by
      refine ⟨I.step.trans hst, hrep, hi, by rw [cand_succ]; exact he, closed2, ?_, ?_, ?_, ?_⟩
      · intro k hk hek hkf
        unfold add
        by_cases e : k = i
        · subst e; simp
        · rw [if_neg e]
          constructor
          · intro h
            have h2 := (I.sync k hk hek hkf).1 h
            omega
          · intro h
            exact hpre k (D.order hi (by omega) hek he hne)
      · intro hf hq
        have hlt : fl < i := by omega
        unfold add; rw [hpre fl (D.order hi hlt (by rw [(D.isNew hf).1]; rfl) he hne)]; simp
      · intro hf hL hq
        unfold add at hL; rw [if_neg (fun e => hne e.symm)] at hL
        exact pend2 hst hf hL (by omega)
      · refine fro_put D hnt I.fro hst.le I.closed hi hLi ho hv (vqi _) fun k hk hLk => ?_
        unfold vq
        by_cases e : k = fl
        · subst e
          by_cases h : k < i
          · have hq' := hflpre (D.order hi h (by rw [(D.isNew hk).1]; rfl) he hne) h
            rw [if_neg (by omega), if_neg (by omega)]
          · rw [if_pos ⟨rfl, by omega⟩, if_pos ⟨rfl, by omega⟩]
        · rw [if_neg (fun h => e h.1), if_neg (fun h => e h.1)]
    obtain ⟨q', ι2, I3, hs'⟩ := I2.settle D T hnt hbase
    exact hK _ _ _ _ I3 hs'
  unfold wpOp
  rw [ho]
  simp only
  rcases hwant with ⟨hw, hwd, hstep⟩ | ⟨hw, hv, hS⟩
  · rw [if_pos hw]
    refine .inl ?_
    have HX := HX_of (env := []) (loc := []) I.fro (fun t i h => by cases h)
    have hcong : ∀ σ, stepO C rec (atD ds i).o (frOf ds fr0 v (fun _ => true) i) σ = stepO C rec (atD ds i).o (frOf ds fr0 (vq fl v q) L ops.size) σ :=
      fun σ => (stepO_congr fun t ht => hag t (by simp only [DOp.looks, ht, Bool.or_true])).symm
    cases hdo : (atD ds i).o with
    | fail => rw [hdo] at hstep; cases hstep
    | p p =>
      have hrunq : runP C [] (frOf ds fr0 (vq fl v q) L ops.size) (S q) (fun v => some v) p = some (v i) := by
        have h1 : runP C [] (frOf ds fr0 v (fun _ => true) i) (S q) (fun v => some v) p = some (v i) := by
          cases hr : readsMem p with
          | false =>
            rw [hdo] at hstep
            simp only [stepO] at hstep
            split at hstep
            · rename_i x hx
              have : x = v i := congrArg Prod.fst (Option.some.inj hstep)
              rw [← this, ← hx]
              exact runP_still hr
            · cases hstep
          | true =>
            refine T.reads i p hi hdo hr hwd q I.qn I.canon ?_
            unfold allowed
            have : ∀ k, k < ds.length → (!(isE (atD ds k).o) || ((!(Nat.testBit (atD ds i).b k) || Nat.blt k q) && (!(Nat.testBit (atD ds k).b i) || Nat.ble q k))) = true := by
              intro k hk
              rw [D.len] at hk
              cases he : isE (atD ds k).o with
              | false => rfl
              | true =>
                simp only [Bool.not_true, Bool.false_or, Bool.and_eq_true]
                constructor
                · cases hb : Nat.testBit (atD ds i).b k with
                  | false => rfl
                  | true =>
                    simp only [Bool.not_true, Bool.false_or]
                    apply natBlt.2
                    by_cases e : k = fl
                    · subst e
                      rcases Nat.lt_or_ge k q with h | h
                      · exact h
                      · obtain ⟨j, h1, h2, h3⟩ := hs hk (hpre k hb) h
                        have hki : k < i := by
                          rcases Nat.lt_trichotomy k i with h | h | h
                          · exact h
                          · exact absurd h.symm hne
                          · have := (I.closed k hk (hpre k hb))
                            exfalso
                            -- a bit is of one ahead
                            have hlt := bits_lt D hi k hb
                            omega
                        have := hpre j (D.behind hi hki hb j h1 h2)
                        rw [h3] at this; cases this
                    · exact (I.sync k hk he e).1 (hpre k hb)
                · cases hb : Nat.testBit (atD ds k).b i with
                  | false => rfl
                  | true =>
                    simp only [Bool.not_true, Bool.false_or]
                    apply natBle.2
                    rcases Nat.lt_or_ge k q with h | h
                    · have hLk : L k = true := by
                        by_cases e : k = fl
                        · subst e; exact I.fl1 hk h
                        · exact (I.sync k hk he e).2 h
                      have := I.closed k hk hLk i hb
                      rw [hLi] at this; cases this
                    · exact h
            exact allB_of this
        rw [← h1]
        have hx : ∀ t, anyX t p.xs = true → (frOf ds fr0 (vq fl v q) L ops.size).get t = (frOf ds fr0 v (fun _ => true) i).get t := fun t ht => hag t (by simp only [DOp.looks, hdo, CO.xs, ht, Bool.or_true])
        refine runP_congr fun x hx2 => ?_
        cases x with
        | loc j => rfl
        | var t => show getV _ = getV _; rw [hx t (anyX_mem hx2)]
        | lit y => rfl
      have hc : cOp P [] o.op = .p p := by rw [← d1]; exact hdo
      obtain ⟨x, u, h1, h2, h3⟩ := P_ok I.rep hC HX hc hrunq
      show o.upon P a K Q _
      rw [h3, Oper.upon_value]
      exact calm (by rw [hdo]; rfl) (Option.some.inj h1) h2
    | f e =>
      have he : isE (atD ds i).o = true := by rw [hdo]; rfl
      obtain ⟨hqi, hS⟩ := hSq he
      rw [hcong, hdo, hS] at hstep
      have hstep : runE C rec [] (frOf ds fr0 (vq fl v q) L ops.size) (S q) k2 e = some (v i, S (i + 1)) := hstep
      have hc : cOp P [] o.op = .f e := by rw [← d1]; exact hdo
      refine upon_of (E_ok I.rep hC hP hrec HX (fun _ => rfl) hc hstep) fun u w' hp => ?_
      obtain ⟨x, σ', ι', h1, h2, h3, h4⟩ := hp
      have h4 := Option.some.inj h4
      have e1 : x = v i := congrArg Prod.fst h4
      have e2 : σ' = S (i + 1) := congrArg Prod.snd h4
      subst e1; subst e2
      exact wild he h1 h2 h3
  · rw [if_neg (by rw [hw]; simp)]
    have hu : VR ν ι (v i) undef := by rw [hv]; exact VR_undef
    cases he : isE (atD ds i).o with
    | false => exact calm he rfl hu
    | true =>
      obtain ⟨hqi, hSi⟩ := hSq he
      exact wild he (.refl _ _) (by rw [hS, hSi]; exact I.rep) hu
end
end Go.Eng
