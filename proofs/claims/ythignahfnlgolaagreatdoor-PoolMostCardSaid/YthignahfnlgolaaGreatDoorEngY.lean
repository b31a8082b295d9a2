/- Such a loop follows the model's. Conditions: none. -/
import Derived.Test.YthignahfnlgolaaGreatDoorEngW
namespace Go.Eng
open Go.RowKit (Below)
section
variable {ν : Nat → Int} {base : Nat} {W w w' : World} {σ : St} {ι ι' : Inj} {P : Program}
theorem region2 {a : Act} {Q : Exit → Act → World → Prop} {id : Nat} {ops : Array Oper} {o0 o1 : Oper} {d0 d1 : Nat} {u0 u1 : Value} {w1 : World} (hs : ops.size = 2) (h0 : ops[0]? = some o0) (h1 : ops[1]? = some o1) (g0 : o0.guard = none) (g1 : o1.guard = none)
    (q0 : o0.dst = some d0) (q1 : o1.dst = some d1) (r0 : (execOp a.eval o0).run P w = .ok (.value u0) w1) (r1 : (execOp (a.put (some d0) u0).eval o1).run P w1 = .ok (.value u1) w1)
    (hQ : Q .normal ((a.put (some d0) u0).put (some d1) u1) w1) : (Code.region id ops false).wp P Q a w := by
  apply wp_region
  rw [hs]
  have w0 : Region.wanted o0 (yielded ops a.tmps) = true := by simp only [Region.wanted, g0]
  show wpOps P ops Q [0, 1] a w
  simp only [wpOps, h0, h1]
  rw [if_pos w0]
  refine .inl ?_
  show o0.upon P a _ Q _
  rw [r0, Oper.upon_value, q0]
  show (if _ then _ else _)
  rw [if_pos (by simp only [Region.wanted, g1])]
  refine .inl ?_
  show o1.upon P _ _ Q _
  rw [r1, Oper.upon_value, q1]
  exact hQ
theorem region3 {a : Act} {Q : Exit → Act → World → Prop} {id : Nat} {ops : Array Oper} {o0 o1 o2 : Oper} {d0 d1 d2 : Nat} {u0 u1 u2 : Value} (hs : ops.size = 3) (h0 : ops[0]? = some o0) (h1 : ops[1]? = some o1) (h2 : ops[2]? = some o2)
    (g0 : o0.guard = none) (g1 : o1.guard = none) (g2 : o2.guard = none) (q0 : o0.dst = some d0) (q1 : o1.dst = some d1) (q2 : o2.dst = some d2) (r0 : (execOp a.eval o0).run P w = .ok (.value u0) w) (r1 : (execOp (a.put (some d0) u0).eval o1).run P w = .ok (.value u1) w)
    (r2 : (execOp ((a.put (some d0) u0).put (some d1) u1).eval o2).run P w = .ok (.value u2) w) (hQ : Q .normal (((a.put (some d0) u0).put (some d1) u1).put (some d2) u2) w) : (Code.region id ops false).wp P Q a w := by
  apply wp_region
  rw [hs]
  have w0 : Region.wanted o0 (yielded ops a.tmps) = true := by simp only [Region.wanted, g0]
  show wpOps P ops Q [0, 1, 2] a w
  simp only [wpOps, h0, h1, h2]
  rw [if_pos w0]
  refine .inl ?_
  show o0.upon P a _ Q _
  rw [r0, Oper.upon_value, q0]
  show (if _ then _ else _)
  rw [if_pos (by simp only [Region.wanted, g1])]
  refine .inl ?_
  show o1.upon P _ _ Q _
  rw [r1, Oper.upon_value, q1]
  show (if _ then _ else _)
  rw [if_pos (by simp only [Region.wanted, g2])]
  refine .inl ?_
  show o2.upon P _ _ Q _
  rw [r2, Oper.upon_value, q2]
  exact hQ
theorem op_next {ρ : Operand → Value} {o : Oper} {t : Nat} {u : Value} {w1 : World} (h : o.op = .next (.tmp t) false) (hr : ∀ ty, (Instr.next (ρ (.tmp t)) false ty).run P w = .ok u w1) : (execOp ρ o).run P w = .ok (.value u) w1 := by
  obtain ⟨dst, op, ty, pos, aft, gd⟩ := o
  simp only at h; subst h
  have e : execOp ρ ⟨dst, .next (.tmp t) false, ty, pos, aft, gd⟩ = (do pure (.value (← Instr.next (ρ (.tmp t)) false ty))) := rfl
  rw [e]
  simp [hr]
theorem op_entry {ρ : Operand → Value} {o : Oper} {t : Nat} {u : Value} {w1 : World} (h : o.op = .entry (.tmp t)) (hr : (Instr.entry (ρ (.tmp t))).run P w = .ok u w1) : (execOp ρ o).run P w = .ok (.value u) w1 := by
  obtain ⟨dst, op, ty, pos, aft, gd⟩ := o
  simp only at h; subst h
  have e : execOp ρ ⟨dst, .entry (.tmp t), ty, pos, aft, gd⟩ = (do pure (.value (← Instr.entry (ρ (.tmp t))))) := rfl
  rw [e]
  simp [hr]
theorem op_extract {ρ : Operand → Value} {o : Oper} {t i : Nat} {vs : Array Value} {u : Value} (h : o.op = .extract (.tmp t) i) (hx : ρ (.tmp t) = .tuple vs) (hu : vs[i]? = some u) : (execOp ρ o).run P w = .ok (.value u) w := by
  obtain ⟨dst, op, ty, pos, aft, gd⟩ := o
  simp only at h; subst h
  have e : execOp ρ ⟨dst, .extract (.tmp t) i, ty, pos, aft, gd⟩ = (do pure (.value (← Instr.extract (ρ (.tmp t)) i))) := rfl
  rw [e, hx]
  simp [Instr.extract, hu]
theorem op_assign {ρ : Operand → Value} {o : Oper} {t : Nat} (h : o.op = .assign (.tmp t)) : (execOp ρ o).run P w = .ok (.value (ρ (.tmp t))) w := by
  obtain ⟨dst, op, ty, pos, aft, gd⟩ := o
  simp only at h; subst h
  rfl
theorem fits1_get {fr : Fr} {l : AS} (h : fits1 fr l = true) : ∀ p ∈ l, p.2 = getV (fr.get p.1) := by
  unfold fits1 at h
  rw [List.all_eq_true] at h
  exact fun p hp => LV.beq_eq _ _ (h p hp)
/-- what is read alone, where nothing of it turned -/
theorem frz_of {σ1 : St} {it : Nat} {m : Option Nat} {a c : Nat} {b : List Nat} (hit : σ.hp.get it = some (.mit m a b c)) (H1 : Rep ν base W σ1 ι w') (hnx : σ1.nx = σ.nx) (hg : ∀ j, j ≠ it → σ1.hp.get j = σ.hp.get j) : Rep ν w'.heap.size w' (frz σ) ι w' := by
  have := H1.frozen.less (frz σ).hp (fun b o h => ?_)
  · have e : (⟨(frz σ).hp, (frz σ1).nx⟩ : St) = frz σ := by show (⟨_, σ1.nx⟩ : St) = ⟨_, σ.nx⟩; rw [hnx]; rfl
    rw [e] at this; exact this
  · have h : (Tr.mapo frzO σ.hp).get b = some o := h
    show (Tr.mapo frzO σ1.hp).get b = some o
    rw [Tr.get_mapo] at h ⊢
    by_cases e : b = it
    · subst e; rw [hit] at h; cases h
    · rw [hg b e]; exact h
theorem mapLoop_ok (hmix : P.follows .mixedOrders = true) {C : Cfg} (hC : C.Holds ν) (hP : C.P = P) (hnum : ∀ (f : Nat) fn, P.funcs[f]? = some fn → (fn.name == "runtime.NumGoroutine") = false) (hprims : ∀ base W f p, C.prims f = some p → PrimOk P ν base W f p)
    {mask nt : Nat} (hnt : nt ≤ 100000) {T : MT} {h : Code → Option Nat} {keep : List Nat} {z : Code} {i8 i9 q9 : Nat} {ops8 ops9 : Array Oper} {p0 p1 o0 o1 o2 : Oper} (hh : holes h z = [(q9, .region i9 ops9 false)])
    (s8 : ops8.size = 2) (h80 : ops8[0]? = some p0) (h81 : ops8[1]? = some p1) (g80 : p0.guard = none) (g81 : p1.guard = none) (e80 : p0.op = .next (.tmp T.it) false) (e81 : p1.op = .extract (.tmp T.n0) 0) (d80 : p0.dst = some T.n0) (d81 : p1.dst = some T.n1)
    (s9 : ops9.size = 3) (h90 : ops9[0]? = some o0) (h91 : ops9[1]? = some o1) (h92 : ops9[2]? = some o2) (g90 : o0.guard = none) (g91 : o1.guard = none) (g92 : o2.guard = none) (e90 : o0.op = .entry (.tmp T.it)) (e91 : o1.op = .extract (.tmp T.d0) 1) (e92 : o2.op = .assign (.tmp T.d1))
    (d90 : o0.dst = some T.d0) (d91 : o1.dst = some T.d1) (d92 : o2.dst = some T.d2) (hlt : T.n0 < nt ∧ T.n1 < nt ∧ T.d0 < nt ∧ T.d1 < nt ∧ T.d2 < nt) {R : Type} {ok : R → Prop} {ι0 : Inj} {w0 : World} (j : Nat) :
    HoleOk P ν base W mask nt ok ι0 w0 (.loop (.seq (.region i8 ops8 false) z)) (mapHole C mask T (compH P mask nt h z) keep j) := by
  intro fr σ k r a w ι hk hok _ H hf
  unfold mapHole at hk
  split at hk
  · rename_i it hit
    split at hk
    · rename_i m since last hb
      obtain ⟨es, c, hb', hk⟩ := withMap_ok H hk
      obtain ⟨hc, hk'⟩ := cond_some hk
      clear hk
      simp only [Bool.and_eq_true, natBeq] at hc
      obtain ⟨⟨⟨⟨⟨rfl, hcl⟩, hkeys⟩, hsimple⟩, hexit⟩, hround⟩ := hc
      subst hcl
      have hlv : ∀ p ∈ ((T.it, LV.ptr it 0) :: asK fr keep : AS), simpleV p.2 = true ∧ VR ν ι p.2 (a.tmps.getD p.1 undef) := by
        intro p hp
        have hx : ∀ t, VR ν ι (getV (fr.get t)) (a.tmps.getD t undef) := fun t => HX_of (env := []) (loc := []) hf (fun t i h => by cases h) (.tmp t)
        cases hp with
        | head => exact ⟨rfl, by have := hx T.it; rw [hit] at this; exact this⟩
        | tail _ hp =>
          refine ⟨?_, by rw [asK_mem hp]; exact hx _⟩
          rw [List.all_eq_true] at hsimple
          exact hsimple p hp
      have hmem : ((T.it, LV.ptr it 0) : Nat × LV) ∈ ((T.it, LV.ptr it 0) :: asK fr keep : AS) := List.mem_cons_self ..
      generalize ((T.it, LV.ptr it 0) :: asK fr keep : AS) = l at *
      have hmne : m ≠ it := fun e => by rw [e, hb] at hb'; cases hb'
      have hitlt : it ≤ 500000001 := by have := H.lt hb; have := H.nx; omega
      let I : Nat → Act → World → Prop := fun n a' w' => ∃ (S : List Nat) (σ1 : St), σ1.nx = σ.nx ∧ (∀ j, σ1.hp.get j = if j = it then some (.mit (some m) c S c) else σ.hp.get j) ∧ (unseen S es).length = n ∧ Rep ν base W σ1 ι w' ∧ Step ι w ι w' ∧
        a'.defers = [] ∧ nt ≤ a'.tmps.size ∧ ∀ p ∈ l, VR ν ι p.2 (a'.tmps.getD p.1 undef)
      refine wp_loop_ghost I (unseen [] es).length ⟨[], σ, rfl, ?_, rfl, H, .refl _ _, hf.defers, hf.size, fun p hp => (hlv p hp).2⟩ ?_
      · intro j
        by_cases e : j = it
        · subst e; rw [if_pos rfl]; exact hb
        · rw [if_neg e]
      · rintro n a1 w1 ⟨S, σ1, hnx, hg1, hn, H1, S1, hd1, hs1, hv1⟩
        have hbit : σ1.hp.get it = some (.mit (some m) c S c) := by rw [hg1, if_pos rfl]
        have hbm : σ1.hp.get m = some (.map es c) := by rw [hg1, if_neg hmne]; exact hb'
        have hitv := hv1 _ hmem
        simp only [VR] at hitv
        obtain ⟨B, hB, hpit⟩ := hitv
        have hval : a1.eval (.tmp T.it) = .pointer (some ⟨B.blk, B.base + 0, none⟩) := hpit
        have hf1 : FrOk ν ι mask nt (mkFr l) a1 := mkFr_ok hkeys hd1 hs1 hv1
        have hback : ∀ {fr' : Fr} {a' : Act} {ι' : Inj}, fits1 fr' l = true → FrOk ν ι' mask nt fr' a' → ι.le ι' → ∀ p ∈ l, VR ν ι p.2 (a'.tmps.getD p.1 undef) := by
          intro fr' a' ι' h1 h2 h3 p hp
          refine VR.back (hlv p hp).1 (hlv p hp).2 h3 ?_
          rw [fits1_get h1 p hp]
          exact HX_of (env := []) (loc := []) h2 (fun t i h => by cases h) (.tmp p.1)
        have hrecs : ∀ base W, CallOk P ν base W (callF C (call C 1000 50 : CallK Unit)) ∧ CallOk P ν base W (callF C (callV C 1000 50)) := fun base W => recs_ok hmix hC hP hnum (hprims base W) 1000 50
        have hput : ∀ {u : Value} {b : Bool}, FrOk ν ι mask nt (afterNext mask T b (mkFr l)) ((a1.put (some T.n0) u).put (some T.n1) (.bool b)) := by
          intro u b
          exact (hf1.put hnt (by intro d e; cases e; exact hlt.1) (x := .bad) (by simp only [VR])).put hnt (by intro d e; cases e; exact hlt.2.1) VR_bool
        have hget0 : ∀ u : Value, (a1.put (some T.n0) u).eval (.tmp T.n0) = u := fun u => by
          show (a1.put (some T.n0) u).tmps.getD T.n0 undef = u
          rw [put_get (Nat.lt_of_lt_of_le hlt.1 hs1), if_pos rfl]
        refine wp_seq ?_
        rcases next_many H1 hB hbit hbm p0.type with ⟨hu, hrun⟩ | ⟨e, he, kx, vx, w2, hrun, H2, S2⟩
        · refine region2 s8 h80 h81 g80 g81 d80 d81 (op_next e80 (fun _ => by rw [hval]; exact hrun)) (op_extract (vs := #[.bool false]) e81 (hget0 _) rfl) ?_
          have HF := frz_of hb H1 hnx (fun j e => by rw [hg1, if_neg e])
          refine wp_mono (runH_ok (ι0 := ι) (w0 := w1) hmix hC hP (hrecs _ _).1 (hrecs _ _).2 hnt (ok := fun _ => True) z _ _ _ () _ _ ι (fun i x _ fr σ k r a w ι h => by cases h) (isSm_some hexit) trivial (.refl _ _) HF hput) ?_
          rintro e' a' w' ⟨r', _, o, fr', σ', ι', rfl, h1, h2, h3, h4⟩
          cases o with
          | normal => cases h4
          | ret => cases h4
          | exit id =>
            obtain ⟨h5, _⟩ := cond_some (show cond (Nat.beq id T.xid && fits1 fr' l) (some ()) none = some r' from h4)
            simp only [Bool.and_eq_true, natBeq] at h5
            obtain ⟨rfl, h5⟩ := h5
            obtain ⟨K1, K2⟩ := H1.kept h2.below
            refine ⟨r, hok, .exit T.xid, mkFr l, ⟨σ.hp.set it none, σ.nx⟩, ι, rfl, S1.trans K2, ?_, mkFr_ok hkeys h3.defers h3.size (hback h5 h3 h1.le), hk'⟩
            have := K1.less (σ.hp.set it none) (fun b o hbo => by
              rw [Tr.get_set _ _ _ _ hitlt] at hbo
              by_cases e : b = it
              · rw [if_pos e] at hbo; cases hbo
              · rw [if_neg e] at hbo; rw [hg1, if_neg e]; exact hbo)
            rw [hnx] at this; exact this
        · refine region2 s8 h80 h81 g80 g81 d80 d81 (op_next e80 (fun _ => by rw [hval]; exact hrun)) (op_extract (vs := #[.bool true, kx, vx]) e81 (hget0 _) rfl) ?_
          have hees : e ∈ es := by rw [unseen_eq] at he; exact (List.mem_filter.1 he).1
          obtain ⟨x, v, hxv, hstamp⟩ := stamp_some hees rfl
          have hr := isSm_some (allE_mem hround _ hxv)
          have hg2 : ∀ j, (σ1.hp.set it (some (.mit (some m) c (S ++ [e.2.2]) c))).get j = if j = it then some (.mit (some m) c (S ++ [e.2.2]) c) else σ.hp.get j := by
            intro j
            rw [Tr.get_set _ _ _ _ hitlt]
            by_cases q : j = it
            · rw [if_pos q, if_pos q]
            · rw [if_neg q, if_neg q, hg1, if_neg q]
          have HF := frz_of hb H2 hnx (fun j q => by show (σ1.hp.set it _).get j = _; rw [hg2, if_neg q])
          have hhole : ∀ i y, (i, y) ∈ holes h z → HoleOk P ν w2.heap.size w2 mask nt (fun _ : Unit => True) ι w2 y (hdM mask T it v i) := by
            intro i y hy
            rw [hh] at hy
            cases List.mem_singleton.1 hy
            intro fr' σ' k' r' a' w' ι' hk' _ hst' H' hf'
            obtain ⟨hbeq, hk'⟩ := cond_some (show cond (LV.beq (.ptr it 0) (getV (fr'.get T.it))) (k' .normal (afterEnt mask T v fr') σ') none = some r' from hk')
            have vit : VR ν ι' (.ptr it 0) (a'.tmps.getD T.it undef) := by
              rw [LV.beq_eq _ _ hbeq]; exact HX_of (env := []) (loc := []) hf' (fun t i h => by cases h) (.tmp T.it)
            have vit0 := VR.back rfl (hlv _ hmem).2 hst'.le vit
            have Hk := (H2.kept H'.below).1
            have hent : rEntry (⟨σ1.hp.set it (some (.mit (some m) c (S ++ [e.2.2]) c)), σ1.nx⟩ : St) (.ptr it 0) (fun y => some y) = some (.tup [x, v]) := by
              simp only [rEntry, hg2, if_true]
              unfold withMap
              simp only [hg2, if_neg hmne, hb']
              simp only [List.getLast?_append, List.getLast?_singleton, Option.some_or, Nat.beq_refl, cond_true]
              exact hstamp
            obtain ⟨y, u, hy, hyu, hrune⟩ := rEntry_ok Hk vit0 hent
            cases hy
            simp only [VR] at hyu
            obtain ⟨us, rfl, hus⟩ := hyu
            obtain ⟨u0, t0, hu0, _, hus⟩ := hus
            obtain ⟨u1, t1, rfl, hu1, hus⟩ := hus
            have hus : t1 = [] := hus
            subst hus
            have hget1 : us[1]? = some u1 := by rw [← Array.getElem?_toList, hu0]; rfl
            have hsz := hf'.size
            refine region3 s9 h90 h91 h92 g90 g91 g92 d90 d91 d92 (op_entry e90 hrune) (op_extract (vs := us) (u := u1) e91 ?_ hget1) (op_assign e92) ?_
            · show (a'.put (some T.d0) _).tmps.getD T.d0 undef = _
              rw [put_get (by omega), if_pos rfl]
            · have hass : ((a'.put (some T.d0) (.tuple us)).put (some T.d1) u1).eval (.tmp T.d1) = u1 := by
                show ((a'.put (some T.d0) (.tuple us)).put (some T.d1) u1).tmps.getD T.d1 undef = u1
                rw [put_get (by simp [Act.put]; omega), if_pos rfl]
              rw [hass]
              have hu1' := hu1.mono hst'.le
              refine ⟨r', trivial, .normal, afterEnt mask T v fr', σ', ι', rfl, .refl _ _, H', ?_, hk'⟩
              exact ((hf'.put hnt (by intro d e; cases e; exact hlt.2.2.1) (x := .bad) (by simp only [VR])).put hnt (by intro d e; cases e; exact hlt.2.2.2.1) hu1').put hnt (by intro d e; cases e; exact hlt.2.2.2.2) hu1'
          refine wp_mono (runH_ok (ι0 := ι) (w0 := w2) hmix hC hP (hrecs _ _).1 (hrecs _ _).2 hnt (ok := fun _ => True) z _ _ _ () _ _ ι hhole hr trivial (.refl _ _) HF hput) ?_
          rintro e' a' w' ⟨r', _, o, fr', σ', ι', rfl, h1, h2, h3, h4⟩
          cases o with
          | ret => cases h4
          | exit id => cases h4
          | normal =>
            obtain ⟨h5, _⟩ := cond_some (show cond (fits1 fr' l) (some ()) none = some r' from h4)
            obtain ⟨K1, K2⟩ := H2.kept h2.below
            exact ⟨_, by rw [← hn]; exact unseen_lt he, S ++ [e.2.2], ⟨σ1.hp.set it (some (.mit (some m) c (S ++ [e.2.2]) c)), σ1.nx⟩, hnx, hg2, rfl, K1, S1.trans (S2.trans K2), h3.defers, h3.size, hback h5 h3 h1.le⟩
    · cases hk
  · cases hk
end
end Go.Eng
