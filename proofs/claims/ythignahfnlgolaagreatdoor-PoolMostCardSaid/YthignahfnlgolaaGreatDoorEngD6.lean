/- A region that draws its order: whatever it draws. Conditions: none. -/
import Derived.Test.YthignahfnlgolaaGreatDoorEngD5
namespace Go.Eng
open Go.RowKit (Below)
section
variable {ν : Nat → Int} {base : Nat} {W : World} {P : Program} {C : Cfg} {mask nt : Nat} {ops : Array Oper} {ds : List DOp} {fl : Nat} {rec : CallV} {ι0 : Inj} {w0 : World} {fr0 : Fr} {v : Nat → LV} {S : Nat → St} {Q : Exit → Act → World → Prop}
def listedB (listed : Array Bool) : Nat → Bool := fun j => listed.getD j false
theorem listedB_set {listed : Array Bool} {i : Nat} (hi : i < listed.size) : listedB (listed.setIfInBounds i true) = add (listedB listed) i := by
  funext j
  unfold listedB add
  by_cases e : j = i
  · subst e; simp [hi]
  · rw [if_neg e, getD_set_ne false (fun q => e q.symm)]
def left (n : Nat) (L : Nat → Bool) : Nat := ((List.range n).filter fun i => !L i).length
theorem left_add {n i : Nat} {L : Nat → Bool} (hi : i < n) (hL : L i = false) : left n (add L i) < left n L := by
  unfold left
  have e : (List.range n).filter (fun j => !add L i j) = ((List.range n).filter fun j => !L j).filter fun j => !(j == i) := by
    rw [List.filter_filter]
    congr 1
    funext j
    unfold add
    by_cases q : j = i
    · subst q; simp
    · simp [q]
  rw [e]
  apply List.length_filter_lt_length_iff_exists.2
  exact ⟨i, by simp [hi, hL], by simp⟩
theorem dany (hC : C.Holds ν) (hP : C.P = P) (hrec : CallOk P ν base W (callF C rec)) (D : DOk P mask nt ops ds fl) (T : TOk C rec ops ds fr0 v S) (hnt : nt ≤ 100000) (hbase : base ≤ w0.heap.size)
    (hQ : ∀ ι a w, Step ι0 w0 ι w → Rep ν base W (S ops.size) ι w → FrOk ν ι mask nt (frOf ds fr0 v (fun _ => true) ops.size) a → Q .normal a w) :
    ∀ (fuel : Nat) (listed : Array Bool) (a : Act) (w : World) (q : Nat) (ι : Inj), listed.size = ops.size → left ops.size (listedB listed) ≤ fuel → DInv ν base W mask nt ops ds fl ι0 w0 fr0 v S (listedB listed) q ι a w → Settled ops ds fl (listedB listed) q →
      wpAny P .any ops Q fuel listed a w := by
  have done : ∀ (listed : Array Bool) (a : Act) (w : World) (q : Nat) (ι : Inj), DInv ν base W mask nt ops ds fl ι0 w0 fr0 v S (listedB listed) q ι a w → Settled ops ds fl (listedB listed) q → (∀ i, i < ops.size → listedB listed i = true) → Q .normal a w := by
    intro listed a w q ι I hs hall
    have hfl : fl < ops.size → fl < q := by
      intro h
      rcases Nat.lt_or_ge fl q with h1 | h1
      · exact h1
      · obtain ⟨k, h2, h3, h4⟩ := hs h (hall fl h) h1
        rw [hall k (by omega)] at h4; cases h4
    have hS : S ops.size = S q := T.stills I.qn (Nat.le_refl _) fun k h1 h2 => by
      cases e : isE (atD ds k).o with
      | false => rfl
      | true =>
        by_cases hk : k = fl
        · subst hk; have := hfl h2; omega
        · have := (I.sync k h2 e hk).1 (hall k h2); omega
    refine hQ ι a w I.step (by rw [hS]; exact I.rep) (I.fro.of_get fun t => ?_)
    refine frOf_congr (D.dst hnt) fun k hk _ => ⟨(hall k hk).symm, fun _ => ?_⟩
    unfold vq
    rw [if_neg]
    rintro ⟨rfl, h⟩
    have := hfl hk; omega
  have ready : ∀ (listed : Array Bool), listed.size = ops.size → Region.ready .any ops listed = [] → ∀ i, i < ops.size → listedB listed i = true := by
    intro listed hsz hr i
    induction i using Nat.strongRecOn with
    | _ i ih =>
      intro hi
      cases e : listedB listed i with
      | true => rfl
      | false =>
        have : i ∈ Region.ready .any ops listed := by
          refine mem_ready.2 ⟨?_, ops[i], Array.getElem?_eq_getElem hi, ?_⟩
          · unfold listedB at e
            have : i < listed.size := by omega
            simpa [this] using e
          · intro e' he' hb
            have hlt := D.less i ops[i] (Array.getElem?_eq_getElem hi) e' he' hb
            exact ih e'.on hlt (by omega)
        rw [hr] at this; cases this
  intro fuel
  induction fuel with
  | zero =>
    intro listed a w q ι hsz hle I hs
    have hall : ∀ i, i < ops.size → listedB listed i = true := by
      intro i hi
      cases e : listedB listed i with
      | true => rfl
      | false => have := left_add (L := listedB listed) hi e; omega
    refine ⟨?_, done listed a w q ι I hs hall⟩
    cases hr : Region.ready .any ops listed with
    | nil => rfl
    | cons i r =>
      exfalso
      have hm : i ∈ Region.ready .any ops listed := by rw [hr]; exact List.mem_cons_self ..
      obtain ⟨h1, o, ho, _⟩ := mem_ready.1 hm
      have hi := (Array.getElem?_eq_some_iff.1 ho).1
      have := hall i hi
      unfold listedB at this
      have hlt : i < listed.size := by omega
      simp [hlt] at this h1
      rw [h1] at this; cases this
  | succ fuel ih =>
    intro listed a w q ι hsz hle I hs
    refine ⟨fun hr => done listed a w q ι I hs (ready listed hsz hr), ?_⟩
    intro i hm
    obtain ⟨h1, o, ho, h2⟩ := mem_ready.1 hm
    have hi := (Array.getElem?_eq_some_iff.1 ho).1
    have hlt : i < listed.size := by omega
    have hLi : listedB listed i = false := by unfold listedB; simp [hlt] at h1 ⊢; exact h1
    have hpre : ∀ k, (atD ds i).b.testBit k = true → listedB listed k = true := by
      intro k hb
      obtain ⟨e, e1, e2, e3, e4⟩ := D.preds i o ho k hb
      have hLe : listedB listed e.on = true := h2 e e1 e2
      rcases e4 with e4 | e4
      · rw [← e4]; exact hLe
      · exact I.closed e.on (by omega) hLe k e4
    have hK : ∀ a' w' q' ι', DInv ν base W mask nt ops ds fl ι0 w0 fr0 v S (add (listedB listed) i) q' ι' a' w' → Settled ops ds fl (add (listedB listed) i) q' → wpAny P .any ops Q fuel (listed.setIfInBounds i true) a' w' := by
      intro a' w' q' ι' I' hs'
      rw [← listedB_set hlt] at I' hs'
      refine ih _ a' w' q' ι' (by simpa using hsz) ?_ I' hs'
      rw [listedB_set hlt]
      have := left_add (L := listedB listed) hi hLi; omega
    by_cases e : i = fl
    · subst e; exact step_new D T hnt hbase I ho hLi hpre hK
    · exact step_other hC hP hrec D T hnt hbase I hs e ho hLi hpre hK

/-- what the run in text order gave -/
theorem TOk_of {l : List DStep} {f : Fr} {s σ : St} (D : DOk P mask nt ops ds fl) (h : textRun C rec ds fr0 σ = some (l, f, s)) (hr : readsOk C ds l s = true) :
    TOk C rec ops ds fr0 (vAt l) (stAt l s) ∧ stAt l s 0 = σ ∧ f = frOf ds fr0 (vAt l) (fun _ => true) ops.size ∧ stAt l s ops.size = s := by
  obtain ⟨h1, h2, h3, h4⟩ := textRun_ok h
  have hlen := D.len
  have hx : ∀ i, i < ops.size → ∃ x, l[i]? = some x ∧ stepD C rec (atD ds i) x.fr x.σ = some (x.v, stAt l s (i + 1)) ∧ x.fr = frOf ds fr0 (vAt l) (fun _ => true) i ∧ x.σ = stAt l s i ∧ x.v = vAt l i := by
    intro i hi
    have hil : i < l.length := by omega
    obtain ⟨d, d1, d2, d3⟩ := h2 i _ (List.getElem?_eq_getElem hil)
    refine ⟨_, List.getElem?_eq_getElem hil, ?_, d3, ?_, ?_⟩
    · have : atD ds i = d := by simp [atD, List.getD_eq_getElem?_getD, d1]
      rw [this]; exact d2
    · simp [stAt, List.getElem?_eq_getElem hil]
    · simp [vAt, List.getElem?_eq_getElem hil]
  refine ⟨⟨?_, ?_⟩, h3, by rw [← hlen]; exact h4, ?_⟩
  · intro i hi
    obtain ⟨x, x1, x2, x3, x4, x5⟩ := hx i hi
    rw [← x3, ← x4, ← x5]; exact x2
  · intro i p hi hp hrm hw q hq hcand hall
    obtain ⟨x, x1, x2, x3, x4, x5⟩ := hx i hi
    have := allB_iff hr i (by omega)
    simp only [hp, x1] at this
    rw [hrm, x3, hw] at this
    simp only [Bool.and_self, Bool.not_true, Bool.false_or] at this
    unfold readOk at this
    have := allB_iff this q (by omega)
    rw [hcand, hall] at this
    simp only [Bool.and_self, Bool.not_true, Bool.false_or] at this
    unfold same at this
    split at this
    · rename_i y hy
      rw [x3] at hy
      rw [hy, LV.beq_eq _ _ this, x5]
    · cases this
  · unfold stAt
    rw [List.getElem?_eq_none (by omega)]
theorem draw_ok {σ : St} {ι : Inj} {w : World} {R : Type} {k : Fr → St → Option R} {r : R} {id : Nat} {a : Act} (hmix : P.follows .mixedOrders = true) (hC : C.Holds ν) (hP : C.P = P) (hrec : CallOk P ν base W (callF C rec)) (hnt : nt ≤ 100000)
    (hd : cDraw P mask nt ops = .dops ds fl) (hQ : ∀ a w', After ν base W mask nt ι w k r a w' → Q .normal a w') (hk : runDR C rec k ds fr0 σ = some r) (H : Rep ν base W σ ι w) (hf : FrOk ν ι mask nt fr0 a) : (Code.region id ops true).wp P Q a w := by
  unfold runDR at hk
  split at hk
  · rename_i l f s hl
    obtain ⟨hr, hk⟩ := cond_some hk
    have D := cDraw_ok hd
    obtain ⟨T, e1, e2, e3⟩ := TOk_of D hl hr
    refine wp_region_any hmix ?_
    have H2 := H.drew
    have hS := Step.drew ι w
    have hempty : listedB (Array.replicate ops.size false) = fun _ => false := by
      funext j
      unfold listedB
      rw [Array.getD_eq_getD_getElem?]
      by_cases q : j < ops.size
      · rw [Array.getElem?_replicate]; simp [q]
      · rw [Array.getElem?_eq_none (by simpa using q)]; rfl
    have hnone : ∀ n, frOf ds fr0 (vq fl (vAt l) 0) (fun _ => false) n = fr0 := by
      intro n
      induction n with
      | zero => rfl
      | succ n ih => simp only [frOf, cond_false]; exact ih
    refine dany (ι0 := ι) (w0 := w.drew) hC hP hrec D T hnt H2.hbase ?_ ops.size _ a w.drew 0 ι (by simp) ?_ ?_ ?_
    · intro ι' a' w' g1 g2 g3
      refine hQ a' w' ⟨f, s, ι', hS.trans g1, by rw [← e3]; exact g2, by rw [e2]; exact g3, hk⟩
    · unfold left
      refine Nat.le_trans (List.length_filter_le _ _) (by simp)
    · rw [hempty]
      exact ⟨.refl _ _, by rw [e1]; exact H2, Nat.zero_le _, rfl, fun i _ h => (by cases h), fun k _ _ _ => ⟨fun h => (by cases h), fun h => by omega⟩, fun _ h => by omega, fun _ h => (by cases h), by rw [hnone]; exact hf⟩
    · rw [hempty]
      intro _ h; cases h
  · cases hk
end
end Go.Eng
