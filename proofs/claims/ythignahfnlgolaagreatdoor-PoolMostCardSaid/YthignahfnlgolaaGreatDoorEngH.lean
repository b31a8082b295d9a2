/- Code with places that are proved apart from it: the symbolic executor runs all else. Conditions: none. -/
import Derived.Test.YthignahfnlgolaaGreatDoorEngL
namespace Go.Eng
open Go.RowKit (Below)

inductive CH where
  | leaf (c : CC)
  | hole (i : Nat)
  | seq (a b : CH)
  | cond (c : X) (a b : CH)
  | block (id : Nat) (a : CH)
/-- h: which places are left out -/
def compH (P : Program) (mask nt : Nat) (h : Code → Option Nat) : Code → CH
  | .seq a b => .seq (compH P mask nt h a) (compH P mask nt h b)
  | .cond c a b => .cond (cX [] c) (compH P mask nt h a) (compH P mask nt h b)
  | .block id a => .block id (compH P mask nt h a)
  | c => match h c with | some i => .hole i | none => .leaf (comp P mask nt c)
/-- the places -/
def holes (h : Code → Option Nat) : Code → List (Nat × Code)
  | .seq a b => holes h a ++ holes h b
  | .cond _ a b => holes h a ++ holes h b
  | .block _ a => holes h a
  | c => match h c with | some i => [(i, c)] | none => []

section
variable {R : Type}
abbrev HK (R : Type) := Nat → Fr → St → ExK R → Option R
def seqH (f : Fr → St → Option R) (k : ExK R) (o : Out) (fr : Fr) (σ : St) : Option R := match o with
  | .normal => f fr σ
  | .exit id => k (.exit id) fr σ
  | .ret => k .ret fr σ
def condH (a b : Option R) (v : LV) : Option R := match v with
  | .bool c => cond c a b
  | _ => none
noncomputable def runH (C : Cfg) (rec : CallK R) (recV : CallV) (n : Nat) (hd : HK R) : CH → Fr → St → ExK R → Option R
  | .leaf c, fr, σ, k => exec C rec recV n c fr σ k
  | .hole i, fr, σ, k => hd i fr σ k
  | .seq a b, fr, σ, k => runH C rec recV n hd a fr σ (seqH (fun fr σ => runH C rec recV n hd b fr σ k) k)
  | .cond c a b, fr, σ, k => condH (runH C rec recV n hd a fr σ k) (runH C rec recV n hd b fr σ k) (ev [] fr c)
  | .block id a, fr, σ, k => runH C rec recV n hd a fr σ (blockK id k)
end
section
variable {ν : Nat → Int} {base : Nat} {W w : World} {σ : St} {ι ι' : Inj} {R : Type} {P : Program} {C : Cfg}
/-- what a place is to be, with what is run for it -/
def ExQs (ν : Nat → Int) (base : Nat) (W : World) (mask nt : Nat) (ok : R → Prop) (ι : Inj) (w : World) (k : ExK R) (e : Exit) (a : Act) (w' : World) : Prop := ∃ r, ok r ∧ ExQ ν base W mask nt ι w k r e a w'
theorem ExQs.step {mask nt : Nat} {ok : R → Prop} {w1 w2 : World} {k : ExK R} {e : Exit} {a : Act} (h : Step ι w ι' w1) (hq : ExQs ν base W mask nt ok ι' w1 k e a w2) : ExQs ν base W mask nt ok ι w k e a w2 := by
  obtain ⟨r, h1, h2⟩ := hq; exact ⟨r, h1, h2.step h⟩
/-- ok: what is asked of the result (of what the places wrote into it) -/
def HoleOk (P : Program) (ν : Nat → Int) (base : Nat) (W : World) (mask nt : Nat) (ok : R → Prop) (ι0 : Inj) (w0 : World) (x : Code) (H : Fr → St → ExK R → Option R) : Prop :=
  ∀ (fr : Fr) (σ : St) (k : ExK R) (r : R) (a : Act) (w : World) (ι : Inj), H fr σ k = some r → ok r → Step ι0 w0 ι w → Rep ν base W σ ι w → FrOk ν ι mask nt fr a → x.wp P (ExQs ν base W mask nt ok ι w k) a w
theorem runH_ok (hmix : P.follows .mixedOrders = true) (hC : C.Holds ν) (hP : C.P = P) {rec : CallK R} {recV : CallV} (hrec : CallOk P ν base W (callF C rec)) (hrecV : CallOk P ν base W (callF C recV)) {mask nt : Nat} (hnt : nt ≤ 100000) {ok : R → Prop} {ι0 : Inj} {w0 : World} {n : Nat} {hd : HK R} {h : Code → Option Nat} :
    ∀ (c : Code) (fr : Fr) (σ : St) (k : ExK R) (r : R) (a : Act) (w : World) (ι : Inj), (∀ i x, (i, x) ∈ holes h c → HoleOk P ν base W mask nt ok ι0 w0 x (hd i)) → runH C rec recV n hd (compH P mask nt h c) fr σ k = some r → ok r → Step ι0 w0 ι w →
      Rep ν base W σ ι w → FrOk ν ι mask nt fr a → c.wp P (ExQs ν base W mask nt ok ι w k) a w := by
  have leafs : ∀ (c : Code) (fr : Fr) (σ : St) (k : ExK R) (r : R) (a : Act) (w : World) (ι : Inj), (∀ i, h c = some i → HoleOk P ν base W mask nt ok ι0 w0 c (hd i)) →
      runH C rec recV n hd (match h c with | some i => .hole i | none => .leaf (comp P mask nt c)) fr σ k = some r → ok r → Step ι0 w0 ι w → Rep ν base W σ ι w → FrOk ν ι mask nt fr a → c.wp P (ExQs ν base W mask nt ok ι w k) a w := by
    intro c fr σ k r a w ι hh hk hr hst H hf
    cases e : h c with
    | some i => rw [e] at hk; exact hh i e fr σ k r a w ι hk hr hst H hf
    | none => rw [e] at hk; exact wp_mono (exec_ok hmix hC hP hrec hrecV hnt n c fr σ k a w ι hk H hf) fun _ _ _ q => ⟨r, hr, q⟩
  intro c
  induction c with
  | seq x y ihx ihy =>
    intro fr σ k r a w ι hh hk hr hst H hf
    have hk : runH C rec recV n hd (compH P mask nt h x) fr σ (seqH (fun fr σ => runH C rec recV n hd (compH P mask nt h y) fr σ k) k) = some r := hk
    refine wp_seq (wp_mono (ihx fr σ _ r a w ι (fun i x hm => hh i x (List.mem_append_left _ hm)) hk hr hst H hf) ?_)
    rintro e a' w' ⟨r', hr', o, fr', σ', ι', rfl, h1, h2, h3, h4⟩
    cases o with
    | normal => exact wp_mono (ihy fr' σ' k r' a' w' ι' (fun i x hm => hh i x (List.mem_append_right _ hm)) h4 hr' (hst.trans h1) h2 h3) fun _ _ _ q => q.step h1
    | exit id => exact ⟨r', hr', .exit id, fr', σ', ι', rfl, h1, h2, h3, h4⟩
    | ret => exact ⟨r', hr', .ret, fr', σ', ι', rfl, h1, h2, h3, h4⟩
  | cond c x y ihx ihy =>
    intro fr σ k r a w ι hh hk hr hst H hf
    have hk : condH (runH C rec recV n hd (compH P mask nt h x) fr σ k) (runH C rec recV n hd (compH P mask nt h y) fr σ k) (ev [] fr (cX [] c)) = some r := hk
    have hx := HX_of (env := []) (loc := []) hf (fun t i h => by cases h) c
    unfold condH at hk
    split at hk
    · rename_i b hb
      rw [hb] at hx
      simp only [VR] at hx
      refine wp_cond hx ?_
      cases b with
      | true => exact ihx fr σ k r a w ι (fun i x hm => hh i x (List.mem_append_left _ hm)) hk hr hst H hf
      | false => exact ihy fr σ k r a w ι (fun i x hm => hh i x (List.mem_append_right _ hm)) hk hr hst H hf
    · cases hk
  | block id x ih =>
    intro fr σ k r a w ι hh hk hr hst H hf
    have hk : runH C rec recV n hd (compH P mask nt h x) fr σ (blockK id k) = some r := hk
    refine wp_block (wp_mono (ih fr σ _ r a w ι hh hk hr hst H hf) ?_)
    rintro e a' w' ⟨r', hr', o, fr', σ', ι', rfl, h1, h2, h3, h4⟩
    cases o with
    | normal => exact ⟨r', hr', .normal, fr', σ', ι', rfl, h1, h2, h3, h4⟩
    | exit id' =>
      simp only [blockK] at h4
      show (if id' = id then _ else _)
      by_cases e : id' = id
      · rw [if_pos e]
        rw [natBeq.2 e, cond_true] at h4
        exact ⟨r', hr', .normal, fr', σ', ι', rfl, h1, h2, h3, h4⟩
      · rw [if_neg e]
        have : Nat.beq id' id = false := by
          cases q : Nat.beq id' id with
          | false => rfl
          | true => exact absurd (natBeq.1 q) e
        rw [this, cond_false] at h4
        exact ⟨r', hr', .exit id', fr', σ', ι', rfl, h1, h2, h3, h4⟩
    | ret => exact ⟨r', hr', .ret, fr', σ', ι', rfl, h1, h2, h3, h4⟩
  | _ =>
    intro fr σ k r a w ι hh hk hr hst H hf
    refine leafs _ fr σ k r a w ι (fun i e => hh i _ ?_) hk hr hst H hf
    simp only [holes, e, List.mem_singleton]

/-- a call whose code has such places -/
theorem callH_ok (hmix : P.follows .mixedOrders = true) (hC : C.Holds ν) (hP : C.P = P) {rec : CallK R} {recV : CallV} (hrec : CallOk P ν base W (callF C rec)) (hrecV : CallOk P ν base W (callF C recV)) {mask n f : Nat} {fn : Func} {c : Code} {hd : HK R} {h : Code → Option Nat} (hfn : P.funcs[f]? = some fn) (hbody : fn.body = some c) (hnt : fn.ntmps ≤ 100000)
    {args : List LV} {vs : Array Value} {k : K R} {r : R} {ok : R → Prop} (hr : ok r) (hlen : args.length ≤ 1000000) (hh : ∀ i x, (i, x) ∈ holes h c → HoleOk P ν base W mask fn.ntmps ok ι w x (hd i))
    (hk : runH C rec recV n hd (compH P mask fn.ntmps h c) (frameOf mask .e 0 args) σ (retK (fn.results.toList.map (cRes P)) k) = some r) (H : Rep ν base W σ ι w) (hv : VRs ν ι args vs.toList) :
    Calls P f vs w fun e w'' => ∃ r', ok r' ∧ ∃ u, e = .returned u ∧ Post ν base W ι w k r' u w'' := by
  have hvl := hv.length
  simp only [Array.length_toList] at hvl
  have hf : FrOk ν ι mask fn.ntmps (frameOf mask .e 0 args) { tmps := vs ++ Array.replicate (fn.ntmps - vs.size) undef, defers := [] } := by
    refine ⟨rfl, by simp; omega, ?_, ?_⟩
    · intro t v ht
      rcases frameOf_get _ args 0 .e (by omega) t v ht with ⟨j, h1, h2, _⟩ | h
      · rw [Nat.zero_add] at h1; subst h1
        obtain ⟨hj, hjv⟩ := List.getElem?_eq_some_iff.1 h2
        obtain ⟨u, hu, hvu⟩ := hv.get t hj
        rw [hjv] at hvu
        have : (vs ++ Array.replicate (fn.ntmps - vs.size) undef).getD t undef = u := by
          rw [Array.getD_eq_getD_getElem?, Array.getElem?_append_left (by omega)]
          simp only [Array.getElem?_toList] at hu
          rw [hu]; rfl
        show VR ν ι v ((vs ++ Array.replicate (fn.ntmps - vs.size) undef).getD t undef)
        rw [this]; exact hvu
      · cases h
    · intro t v ht
      rcases frameOf_get _ args 0 .e (by omega) t v ht with ⟨j, _, _, h3⟩ | h
      · exact h3
      · cases h
  refine calls_of_wp hfn hbody (wp_mono (runH_ok hmix hC hP hrec hrecV hnt c _ σ _ r _ w ι hh hk hr (.refl _ _) H hf) ?_)
  rintro e a' w' ⟨r', hr', o, fr', σ', ι', rfl, h1, h2, h3, h4⟩
  have main : resOf σ' fr' (resK k σ') (fn.results.toList.map (cRes P)) = some r' → a'.defers = [] ∧ ∃ v, (results fn a'.tmps).run P w' = .ok v w' ∧ ∃ r', ok r' ∧ ∃ u, (Ending.returned v) = .returned u ∧ Post ν base W ι w k r' u w' := by
    intro hr
    obtain ⟨xs, us, g1, g2, g3⟩ := resOf_ok (P := P) h2 h3 hr
    have hl := g2.length
    refine ⟨h3.defers, if h : us.toArray.size = 1 then us.toArray[0] else .tuple us.toArray, ?_, r', hr', _, rfl, ?_⟩
    · unfold results
      simp only [Sem.run_bind]
      rw [Array.mapM_eq_mapM_toList]
      simp only [Sem.run_map]
      refine Eq.trans (congrArg (fun z => Result.andThen (Result.andThen z _) _) g3) ?_
      rfl
    · cases xs with
      | nil =>
        have hus : us = [] := by simpa using hl.symm
        subst hus
        exact ⟨_, σ', ι', h1, h2, (by simp only [VR]; exact ⟨_, rfl, g2⟩), g1⟩
      | cons x xs =>
        cases us with
        | nil => cases hl
        | cons u us =>
          cases xs with
          | nil =>
            have hus : us = [] := by simpa using hl.symm
            subst hus
            exact ⟨_, σ', ι', h1, h2, (VRs_cons_iff.1 g2).1, g1⟩
          | cons y ys =>
            have hne : ¬ (u :: us).toArray.size = 1 := by simp at hl ⊢; intro q; subst q; simp at hl
            rw [dif_neg hne]
            exact ⟨_, σ', ι', h1, h2, (by simp only [VR]; exact ⟨_, rfl, g2⟩), g1⟩
  cases o with
  | normal => exact main h4
  | ret => exact main h4
  | exit id => cases h4

/-- what is known stays known where nothing turns of what was there -/
theorem Rep.kept (H : Rep ν base W σ ι w) {w' : World} (hb : Below w.heap.size w w') : Rep ν base W σ ι w' ∧ Step ι w ι w' := by
  refine ⟨⟨H.below.trans (hb.mono H.hbase), Nat.le_trans H.hbase hb.size, fun b o h => (H.obj b o h).keep ι.le_refl fun B hB => hb.block _ (H.blk _ _ hB), H.fresh, fun b B h => Nat.lt_of_lt_of_le (H.blk b B h) hb.size, H.cls, H.apart, H.nx⟩,
    ι.le_refl, hb.size, fun b B h k => (by rw [h] at k; cases k), fun k hk _ => hb.block k hk⟩
end
end Go.Eng
