/- Loops over a slice of whole numbers among the arguments: rounds are run by the symbolic executor from each of a few states. Conditions: none. -/
import Derived.Test.YthignahfnlgolaaEngH
import Derived.ChangeSlices
namespace Go.Eng
open Go.RowKit (Below)

/-! ## values without unknown numbers, that mention only the first blocks -/
mutual
def closedV (m : Nat) : LV → Bool
  | .bad | .sym .. => false
  | .ptr b _ => Nat.blt b m
  | .slice _ b _ _ _ => Nat.blt b m
  | .map r => Nat.blt r m
  | .func _ a b => closedVs m a && closedVs m b
  | .iface _ v => closedV m v
  | .agg cs => closedVs m cs
  | .tup cs => closedVs m cs
  | _ => true
def closedVs (m : Nat) : List LV → Bool
  | [] => true
  | v :: r => closedV m v && closedVs m r
end
section
variable {ν ν' : Nat → Int} {ι ι' : Inj} {m : Nat}
mutual
theorem VR.closed (hi : ∀ b, b < m → ι b = ι' b) : ∀ (x : LV) (v : Value), closedV m x = true → VR ν ι x v → VR ν' ι' x v
  | .bad, _, hc, _ => by simp only [closedV] at hc; cases hc
  | .bool b, v, _, h => by simp only [VR] at h ⊢; exact h
  | .int k n, v, _, h => by simp only [VR] at h ⊢; exact h
  | .sym k n, v, hc, _ => by simp only [closedV] at hc; cases hc
  | .str l, v, _, h => by simp only [VR] at h ⊢; exact h
  | .ptr b o, v, hc, h => by
    simp only [closedV, natBlt] at hc; simp only [VR] at h ⊢; rw [← hi b hc]; exact h
  | .nilptr, v, _, h => by simp only [VR] at h ⊢; exact h
  | .slice e b o len cap, v, hc, h => by
    simp only [closedV, natBlt] at hc; simp only [VR] at h ⊢; rw [← hi b hc]; exact h
  | .nilslice, v, _, h => by simp only [VR] at h ⊢; exact h
  | .map r, v, hc, h => by
    simp only [closedV, natBlt] at hc; simp only [VR] at h ⊢; rw [← hi r hc]; exact h
  | .nilmap, v, _, h => by simp only [VR] at h ⊢; exact h
  | .func f a b, v, hc, h => by
    simp only [closedV, Bool.and_eq_true] at hc; simp only [VR] at h ⊢
    obtain ⟨as, bs, e, h1, h2⟩ := h; exact ⟨as, bs, e, VRs.closed hi a _ hc.1 h1, VRs.closed hi b _ hc.2 h2⟩
  | .nilFunc, v, _, h => by simp only [VR] at h ⊢; exact h
  | .iface t x, v, hc, h => by
    simp only [closedV] at hc; simp only [VR] at h ⊢
    obtain ⟨u, e, h1⟩ := h; exact ⟨u, e, VR.closed hi x _ hc h1⟩
  | .nilIface, v, _, h => by simp only [VR] at h ⊢; exact h
  | .agg cs, v, hc, h => by
    simp only [closedV] at hc; simp only [VR] at h ⊢
    obtain ⟨vs, e, h1, h2⟩ := h; exact ⟨vs, e, VRs.closed hi cs _ hc h1, h2⟩
  | .tup cs, v, hc, h => by
    simp only [closedV] at hc; simp only [VR] at h ⊢
    obtain ⟨vs, e, h1⟩ := h; exact ⟨vs, e, VRs.closed hi cs _ hc h1⟩
theorem VRs.closed (hi : ∀ b, b < m → ι b = ι' b) : ∀ (x : List LV) (v : List Value), closedVs m x = true → VRs ν ι x v → VRs ν' ι' x v
  | [], v, _, h => by simp only [VRs] at h ⊢; exact h
  | x :: r, v, hc, h => by
    simp only [closedVs, Bool.and_eq_true] at hc; simp only [VRs] at h ⊢
    obtain ⟨u, t, e, h1, h2⟩ := h; exact ⟨u, t, e, VR.closed hi x _ hc.1 h1, VRs.closed hi r _ hc.2 h2⟩
end
end

/-! ## frames of what is known -/
noncomputable def mkFr : List (Nat × LV) → Fr
  | [] => .e
  | p :: r => Tr.set (mkFr r) p.1 (some p.2)
theorem mkFr_get : ∀ {l : List (Nat × LV)} {t : Nat} {v : LV}, (∀ p ∈ l, p.1 ≤ 100000) → (mkFr l).get t = some v → (t, v) ∈ l
  | [], t, v, _, h => by cases h
  | p :: r, t, v, hl, h => by
    simp only [mkFr] at h
    rw [Tr.get_set _ _ _ _ (by have := hl p (List.mem_cons_self ..); omega)] at h
    by_cases e : t = p.1
    · rw [if_pos e] at h; cases h; rw [e]; exact List.mem_cons_self ..
    · rw [if_neg e] at h; exact List.mem_cons_of_mem _ (mkFr_get (fun q hq => hl q (List.mem_cons_of_mem _ hq)) h)
def keysOk (mask : Nat) (l : List (Nat × LV)) : Bool := l.all fun p => Nat.testBit mask p.1 && Nat.ble p.1 100000
section
variable {ν : Nat → Int} {base : Nat} {W w : World} {σ : St} {ι ι' : Inj} {R : Type} {P : Program} {C : Cfg}
theorem mkFr_ok {mask nt : Nat} {l : List (Nat × LV)} {a : Act} (hk : keysOk mask l = true) (hd : a.defers = []) (hs : nt ≤ a.tmps.size) (hv : ∀ p ∈ l, VR ν ι p.2 (a.tmps.getD p.1 undef)) : FrOk ν ι mask nt (mkFr l) a := by
  unfold keysOk at hk
  rw [List.all_eq_true] at hk
  have hl : ∀ p ∈ l, p.1 ≤ 100000 := fun p hp => by have := hk p hp; simp only [Bool.and_eq_true, natBle] at this; exact this.2
  refine ⟨hd, hs, fun t v h => hv _ (mkFr_get hl h), fun t v h => ?_⟩
  have := hk _ (mkFr_get hl h)
  simp only [Bool.and_eq_true] at this; exact this.1

/-! ## an element of a slice, taken -/
theorem elem_region {a : Act} {Q : Exit → Act → World → Prop} {id : Nat} {ops : Array Oper} {t e te s i d0 d1 d2 : Nat} {o0 o1 o2 : Oper} (hs : ops.size = 3) (h0 : ops[0]? = some o0) (h1 : ops[1]? = some o1) (h2 : ops[2]? = some o2)
    (g0 : o0.guard = none) (g1 : o1.guard = none) (g2 : o2.guard = none) (p0 : o0.op = .indexAddr t (.tmp s) (.tmp i)) (p1 : o1.op = .load te (.tmp d0)) (p2 : o2.op = .assign (.tmp d1)) (q0 : o0.dst = some d0) (q1 : o1.dst = some d1) (q2 : o2.dst = some d2)
    (hd : und P t = some (.slice e)) (hz : sizeOf P e = 1) (hag : agg? P te = some false) {addr : Addr} {len C j : Nat} {k : IntKind} {v : Value}
    (hsl : a.tmps.getD s undef = .slice (some addr) len C) (hi : a.tmps.getD i undef = .int k j) (hj : j < len) (hcell : w.cell? (addr.add j) = some v) (hs0 : d0 < a.tmps.size) (hs1 : d1 < a.tmps.size)
    (hQ : Q .normal (((a.put (some d0) (.pointer (some (addr.add j)))).put (some d1) v).put (some d2) v) w) : (Code.region id ops false).wp P Q a w := by
  apply wp_region
  rw [hs]
  have r0 : (execOp a.eval o0).run P w = .ok (.value (.pointer (some (addr.add j)))) w := by
    obtain ⟨dst, op, ty, pos, aft, gd⟩ := o0
    simp only at p0; subst p0
    have hx : execOp a.eval ⟨dst, .indexAddr t (.tmp s) (.tmp i), ty, pos, aft, gd⟩ = (do pure (.value (← Instr.indexAt t (a.tmps.getD s undef) (a.tmps.getD i undef)))) := rfl
    rw [hx, hsl, hi]
    have hz' : sizeOf P e ≠ 0 := by omega
    simp [Instr.indexAt, asIntOf, und_run hd, hj, size_run hz', hz]
  have w0 : Region.wanted o0 (yielded ops a.tmps) = true := by simp only [Region.wanted, g0]
  show wpOps P ops Q [0, 1, 2] a w
  simp only [wpOps, h0, h1, h2]
  rw [if_pos w0]
  refine .inl ?_
  show o0.upon P a _ Q _
  rw [r0, Oper.upon_value, q0]
  show (if _ then _ else _)
  rw [if_pos (by simp only [Region.wanted, g1])]
  refine .inl ?_
  have hget : (a.put (some d0) (.pointer (some (addr.add j)))).tmps.getD d0 undef = .pointer (some (addr.add j)) := by rw [put_get hs0, if_pos rfl]
  have r1 : (execOp (a.put (some d0) (.pointer (some (addr.add j)))).eval o1).run P w = .ok (.value v) w := by
    obtain ⟨dst, op, ty, pos, aft, gd⟩ := o1
    simp only at p1; subst p1
    have e : execOp (a.put (some d0) (.pointer (some (addr.add j)))).eval ⟨dst, .load te (.tmp d0), ty, pos, aft, gd⟩ = (do pure (.value (← Instr.loadAt te ((a.put (some d0) (.pointer (some (addr.add j)))).tmps.getD d0 undef)))) := rfl
    rw [e, hget]
    simp [Instr.loadAt, Instr.sureAddr, loadVar, (agg_run (w := w) hag).1, hcell]
  show o1.upon P _ _ Q _
  rw [r1, Oper.upon_value, q1]
  show (if _ then _ else _)
  rw [if_pos (by simp only [Region.wanted, g2])]
  refine .inl ?_
  have hsz : (a.put (some d0) (.pointer (some (addr.add j)))).tmps.size = a.tmps.size := by simp [Act.put]
  have hget2 : ((a.put (some d0) (.pointer (some (addr.add j)))).put (some d1) v).tmps.getD d1 undef = v := by rw [put_get (by rw [hsz]; exact hs1), if_pos rfl]
  have r2 : (execOp ((a.put (some d0) (.pointer (some (addr.add j)))).put (some d1) v).eval o2).run P w = .ok (.value v) w := by
    obtain ⟨dst, op, ty, pos, aft, gd⟩ := o2
    simp only at p2; subst p2
    have e : execOp ((a.put (some d0) (.pointer (some (addr.add j)))).put (some d1) v).eval ⟨dst, .assign (.tmp d1), ty, pos, aft, gd⟩ = pure (.value (((a.put (some d0) (.pointer (some (addr.add j)))).put (some d1) v).tmps.getD d1 undef)) := rfl
    rw [e, hget2]; rfl
  show o2.upon P _ _ Q _
  rw [r2, Oper.upon_value, q2]
  exact hQ
end
end Go.Eng
