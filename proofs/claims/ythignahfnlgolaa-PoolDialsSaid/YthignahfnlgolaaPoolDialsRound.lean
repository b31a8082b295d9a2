/- The loop of the law PoolDials: round by round a pool of so many connections. Conditions: none. -/
import Derived.Test.YthignahfnlgolaaPoolDialsLoop
namespace Go.Proofs.Ythignahfnlgolaa.poolDials
open Go.Eng
open Go.RowKit (Below)
section
variable {ν ν' : Nat → Int} {base : Nat} {W w : World} {σ : St} {ι ι' : Inj}
theorem sameKeys_ok : ∀ {es es2 : List (LV × LV × Nat)} {ms : List MapEntry}, ERs ν ι es ms → sameKeys es es2 = true → (∀ e ∈ es2, (∃ n, e.1 = .int .i64 n) ∧ e.2.1 = .bad) → ERs ν' ι' es2 ms
  | [], [], ms, h, _, _ => h
  | [], _ :: _, _, _, h, _ => by cases h
  | (x, v, a) :: r, [], _, _, h, _ => by cases h
  | (x, v, a) :: r, (y, v2, b) :: s, ms, h, hk, hs => by
    obtain ⟨m, t, rfl, h1, h2, h3, h4⟩ := h
    simp only [sameKeys, Bool.and_eq_true, natBeq] at hk
    obtain ⟨⟨k1, k2⟩, k3⟩ := hk
    have k1 := LV.beq_eq _ _ k1
    obtain ⟨⟨n, e1⟩, e2⟩ := hs _ (List.mem_cons_self ..)
    simp only at e1 e2 h1 h3
    subst k1
    subst e1
    refine ⟨m, t, rfl, ?_, ?_, ?_, sameKeys_ok h4 k3 fun e he => hs e (List.mem_cons_of_mem _ he)⟩
    · simp only [VR] at h1 ⊢; exact h1
    · simp only; rw [e2]; simp only [VR]
    · rw [h3, k2]
theorem ents_ok : ∀ k, ∀ e ∈ ents k, ((∃ n, e.1 = .int .i64 n) ∧ e.2.1 = .bad) ∧ e.2.2 < k
  | 0, e, he => by cases he
  | k + 1, e, he => by
    rcases List.mem_append.1 he with h | h
    · obtain ⟨h1, h2⟩ := ents_ok k e h; exact ⟨h1, by omega⟩
    · simp only [List.mem_singleton] at h; subst h; exact ⟨⟨⟨_, rfl⟩, rfl⟩, by simp⟩
def inj3 (B Bp Bq : Blk) : Inj := fun b => if b = 0 then some B else if b = 1 then some Bp else if b = 2 then some Bq else none
/-- a pool that is there, seen alone -/
theorem view {k p q : Nat} (H : Rep ν base W σ ι w) (h : okAt k p q σ = true) {B : Blk} (hB : B.blk < w.heap.size) : ∃ Bp Bq, ι p = some Bp ∧ ι q = some Bq ∧ ∀ ν', Rep ν' base W (stD k) (inj3 B Bp Bq) w := by
  unfold okAt at h
  split at h
  · rename_i cs c st hp
    split at h
    · rename_i es ck hq
      simp only [Bool.and_eq_true, natBle, natBeq] at h
      obtain ⟨⟨⟨h1, h2⟩, h3⟩, h4⟩ := h
      have h1 := LV.beqs_eq _ _ h1
      subst h1; subst h3
      obtain ⟨Bp, arr, e, fz, a1, a2, a3, a4, a5, a6, a7, a8⟩ := H.obj _ _ hp
      obtain ⟨Bq, ms, b1, b2, b3, b4, b5⟩ := H.obj _ _ hq
      have hne : p ≠ q := by intro e; subst e; rw [hp] at hq; cases hq
      have hblk : Bp.blk ≠ Bq.blk := fun e => H.apart p q _ _ Bp Bq hne hp hq a1 b1 e
      refine ⟨Bp, Bq, a1, b1, fun ν' => ?_⟩
      have hg : ∀ j o, (stD ck).hp.get j = some o → (j = 1 ∧ o = .cells (poolCs ck 2) 1 0) ∨ (j = 2 ∧ o = .map (ents ck) ck) := by
        intro j o hj
        have hj : (Tr.set (Tr.set .e 1 (some (.cells (poolCs ck 2) 1 0))) 2 (some (.map (ents ck) ck))).get j = some o := hj
        rw [Tr.get_set _ _ _ _ (by omega)] at hj
        by_cases e2 : j = 2
        · rw [if_pos e2] at hj; cases hj; exact .inr ⟨e2, rfl⟩
        · rw [if_neg e2, Tr.get_set _ _ _ _ (by omega)] at hj
          by_cases e1 : j = 1
          · rw [if_pos e1] at hj; cases hj; exact .inl ⟨e1, rfl⟩
          · rw [if_neg e1] at hj; cases hj
      refine ⟨H.below, H.hbase, ?_, ?_, ?_, ?_, ?_, (by show 3 ≤ 500000001; decide)⟩
      · intro j o hj
        rcases hg j o hj with ⟨rfl, rfl⟩ | ⟨rfl, rfl⟩
        · refine ⟨Bp, arr, e, fz, rfl, a2, a3, a4, a5, ?_, rfl, .inr ⟨by omega, (a8.resolve_left (by omega)).2⟩⟩
          show VRs ν' _ (poolCs ck 2) ((arr.toList.drop Bp.base).take 8)
          have a6 : VRs ν ι (poolCs ck q) ((arr.toList.drop Bp.base).take 8) := a6
          simp only [poolCs, VRs] at a6 ⊢
          obtain ⟨u1, l1, e1, c1, u2, l2, e2, c2, u3, l3, e3, c3, u4, l4, e4, c4, u5, l5, e5, c5, u6, l6, e6, c6, u7, l7, e7, c7, u8, l8, e8, c8, e9⟩ := a6
          simp only [VR] at c1 c2 c3 c4 c5 c6 c7 c8
          obtain ⟨Bq', c8, c9⟩ := c8
          rw [b1] at c8; cases c8
          refine ⟨u1, l1, e1, ?_, u2, l2, e2, ?_, u3, l3, e3, ?_, u4, l4, e4, ?_, u5, l5, e5, ?_, u6, l6, e6, ?_, u7, l7, e7, ?_, u8, l8, e8, ?_, e9⟩ <;> simp only [VR]
          · exact c1
          · exact c2
          · exact c3
          · exact c4
          · exact c5
          · exact c6
          · exact c7
          · exact ⟨Bq, rfl, c9⟩
        · exact ⟨Bq, ms, rfl, b2, b3, sameKeys_ok b4 h4 (fun e he => (ents_ok _ e he).1), fun e he => (ents_ok _ e he).2⟩
      · intro j B' hj
        show j < 3
        unfold inj3 at hj
        split at hj
        · omega
        · split at hj
          · omega
          · split at hj
            · omega
            · cases hj
      · intro j B' hj
        unfold inj3 at hj
        split at hj
        · cases hj; exact hB
        · split at hj
          · cases hj; exact H.blk _ _ a1
          · split at hj
            · cases hj; exact H.blk _ _ b1
            · cases hj
      · intro j cs c s hj
        rcases hg j _ hj with ⟨rfl, e⟩ | ⟨rfl, e⟩
        · cases e; show 1 < 3; omega
        · cases e
      · intro j j' o o' B1 B2 hne' h5 h6 h7 h8 heq
        rcases hg j o h5 with ⟨rfl, rfl⟩ | ⟨rfl, rfl⟩ <;> rcases hg j' o' h6 with ⟨rfl, rfl⟩ | ⟨rfl, rfl⟩
        · exact absurd rfl hne'
        · have e1 : Bp = B1 := Option.some.inj h7
          have e2 : Bq = B2 := Option.some.inj h8
          subst e1; subst e2; exact absurd heq hblk
        · have e1 : Bq = B1 := Option.some.inj h7
          have e2 : Bp = B2 := Option.some.inj h8
          subst e1; subst e2; exact absurd heq.symm hblk
        · exact absurd rfl hne'
    · cases h
  · cases h

/-- the loop -/
theorem loop {n : Nat} (hn : n ≤ 20) {bs : List Bool} {B Bp Bq : Blk} {ι0 : Inj} (hι : ι0 0 = some B) (hp : ∃ p, ι0 p = some Bp) (hq : ∃ q, ι0 q = some Bq)
    (hcell : ∀ i, i < n → ∀ w', Below base W w' → w'.cell? ((⟨B.blk, B.base, none⟩ : Addr).add i) = some (.bool (bs.getD i false))) {a : Act} (hBp : ∀ ν, VR ν (inj3 B Bp Bq) (.ptr 1 0) (a.tmps.getD 3 undef))
    (h4 : a.tmps.getD 4 undef = .int .i64 0) (hts : ∀ ν, VR ν (inj3 B Bp Bq) (slN n) (a.tmps.getD T.ts undef)) (htl : a.tmps.getD T.tl undef = .int .i64 n) (hti : a.tmps.getD T.ti undef = .int .i64 0) (hd : a.defers = []) (hs : Try.f3.ntmps ≤ a.tmps.size)
    (hrep : ∀ ν, Rep ν base W (stD 0) (inj3 B Bp Bq) w) {Q : Exit → Act → World → Prop}
    (hQ : ∀ a' w', a'.defers = [] → Try.f3.ntmps ≤ a'.tmps.size → Below base W w' → w.heap.size ≤ w'.heap.size → (∀ j, j < w.heap.size → (∀ b Bb, ι0 b = some Bb → Bb.blk ≠ j) → w'.heap[j]? = w.heap[j]?) → Q (.exit T.xid) a' w') : (Code.loop x).wp Try.prog Q a w := by
  let I : Act → World → Prop := fun a' w' => ∃ i k : Nat, i ≤ n ∧ k ≤ i ∧ a'.defers = [] ∧ Try.f3.ntmps ≤ a'.tmps.size ∧ (∀ ν, VR ν (inj3 B Bp Bq) (.ptr 1 0) (a'.tmps.getD 3 undef)) ∧ a'.tmps.getD 4 undef = .int .i64 (.ofNat k) ∧
    (∀ ν, VR ν (inj3 B Bp Bq) (slN n) (a'.tmps.getD T.ts undef)) ∧ a'.tmps.getD T.tl undef = .int .i64 n ∧ a'.tmps.getD T.ti undef = .int .i64 i ∧ (∀ ν, Rep ν base W (stD k) (inj3 B Bp Bq) w') ∧ w.heap.size ≤ w'.heap.size ∧
    ∀ j, j < w.heap.size → (∀ b Bb, ι0 b = some Bb → Bb.blk ≠ j) → w'.heap[j]? = w.heap[j]?
  have hkeys := keys
  rw [List.all_eq_true] at hkeys
  refine wp_loop I (fun a' _ => (n - (RowKit.intOf (a'.tmps.getD T.ti undef)).toNat)) ⟨0, 0, Nat.zero_le _, Nat.le_refl _, hd, hs, hBp, h4, hts, htl, hti, hrep, Nat.le_refl _, fun _ _ _ => rfl⟩ ?_
  rintro a1 w1 ⟨i, k, hin, hki, gd, gs, g3, g4, gts, gtl, gti, grep, gsz, gold⟩
  rcases Nat.lt_or_ge i n with hlt | hge
  · let ν : Nat → Int := fun j => if j = 1 then i else n
    have hC : CD.Holds ν := by
      refine ⟨?_, fun _ _ h => by cases h⟩
      intro op a b r hm
      cases hm with
      | head => exact decide_eq_true (show ((i : Nat) : Int) < (n : Nat) by omega)
      | tail _ hm => cases hm
    have hk20 : k ∈ l20 := by
      have : k < 20 := by omega
      simp only [l20, List.mem_cons, List.not_mem_nil, or_false]
      omega
    obtain ⟨b, hb⟩ : ∃ b, bs.getD i false = b := ⟨_, rfl⟩
    obtain ⟨rl, hrl, hrl2⟩ : ∃ rl, roundD n b k = some rl ∧ ∀ v ∈ rl, v = slN n := by
      cases b with
      | false =>
        obtain ⟨rl, h1, h2⟩ := collect_mem (roundsF n) k hk20
        exact ⟨rl, h1, fun v hv => List.eq_of_mem_replicate (h2 v hv)⟩
      | true =>
        obtain ⟨rl, h1, h2⟩ := collect_mem (roundsT n) k hk20
        exact ⟨rl, h1, fun v hv => List.eq_of_mem_replicate (h2 v hv)⟩
    have hf : FrOk ν (inj3 B Bp Bq) M Try.f3.ntmps (mkFr ((T.ts, slN n) :: ixs T (asD k))) a1 := by
      refine mkFr_ok (by have := hkeys k hk20; simp only [keysOk, List.all_cons] at this ⊢; exact this) gd gs ?_
      intro p hp
      simp only [ixs, asD, List.mem_cons, List.not_mem_nil, or_false] at hp
      rcases hp with rfl | rfl | rfl | rfl | rfl
      · exact gts ν
      · show VR ν _ (.sym .i64 (.var 2)) (a1.tmps.getD T.tl undef); rw [gtl]; simp only [VR]; rfl
      · show VR ν _ (.sym .i64 (.var 1)) (a1.tmps.getD T.ti undef); rw [gti]; simp only [VR]; rfl
      · exact g3 ν
      · show VR ν _ (.int .i64 (.ofNat k)) (a1.tmps.getD 4 undef); rw [g4]; simp only [VR]
    have hhole : ∀ j y, (j, y) ∈ holes (hE 9) x → HoleOk Try.prog ν base W M Try.f3.ntmps (fun r : List LV => ∀ v ∈ r, v = slN n) (inj3 B Bp Bq) w1 y (hdR M T (.bool b) j) := by
      intro j y hm
      rw [holes_x] at hm
      simp only [List.mem_singleton, Prod.mk.injEq] at hm
      obtain ⟨rfl, rfl⟩ := hm
      exact elem_hole (by decide +kernel) size at0 at1 at2 g0 g1 g2 p0 p1 p2 q0 q1 q2 und22 size4 agg4 (by decide +kernel) (B := B) rfl hlt rfl (x := .bool b) (u := .bool b) (fun ι => by simp only [VR]) (fun w' hb' => by rw [← hb]; exact hcell i hlt w' hb') 1
    obtain ⟨R1, R2⟩ := recs_ok (R := List LV) (C := CD) (base := base) (W := W) (ν := ν) mixed hC rfl hnum (fun f p hp => prims2_ok f p hp) 100000 200
    refine wp_mono (runH_ok mixed hC rfl R1 R2 (by decide +kernel) x _ _ _ rl a1 w1 (inj3 B Bp Bq) hhole hrl hrl2 (.refl _ _) (grep ν) hf) ?_
    rintro e a' w' ⟨r', hr', o, fr', σ', ι', rfl, f1, f2, f3, f4⟩
    have vals : ∀ t, VR ν ι' (getV (fr'.get t)) (a'.tmps.getD t undef) := fun t => HX_of (env := []) (loc := []) f3 (fun t i h => by cases h) (.tmp t)
    have hle : ∀ j Bj, inj3 B Bp Bq j = some Bj → ι' j = some Bj := f1.le
    have same : ∀ j, j < 3 → ι' j = inj3 B Bp Bq j := by
      intro j hj
      obtain rfl | rfl | rfl : j = 0 ∨ j = 1 ∨ j = 2 := by omega
      · exact hle 0 B rfl
      · exact hle 1 Bp rfl
      · exact hle 2 Bq rfl
    cases o with
    | normal =>
      have f4 : cond (fits1 fr' (asD (cond b (k + 1) k)) && nextIx T fr' && okAt (cond b (k + 1) k) 1 2 σ') (some [getV (fr'.get T.ts)]) none = some r' := f4
      obtain ⟨k1, k2⟩ := cond_some f4
      cases k2
      simp only [Bool.and_eq_true, nextIx] at k1
      obtain ⟨⟨k1, k2, k3⟩, k4⟩ := k1
      have hts' : getV (fr'.get T.ts) = slN n := hr' _ (List.mem_cons_self ..)
      have vts := vals T.ts
      rw [hts'] at vts
      have vtl := vals T.tl
      rw [← LV.beq_eq _ _ k2] at vtl
      simp only [VR] at vtl
      have vti := vals T.ti
      rw [← LV.beq_eq _ _ k3] at vti
      simp only [VR] at vti
      have vti : a'.tmps.getD T.ti undef = .int .i64 ((i + 1 : Nat) : Int) := by
        rw [vti]
        show Value.int .i64 (IntKind.wrap .i64 ((i : Nat) + 1)) = _
        rw [wrap_in _ (by omega) (by omega)]
        rfl
      simp only [fits1, asD, List.all_cons, List.all_nil, Bool.and_true, Bool.and_eq_true] at k1
      have v3 := vals 3
      rw [← LV.beq_eq _ _ k1.1] at v3
      have v4 := vals 4
      rw [← LV.beq_eq _ _ k1.2] at v4
      simp only [VR] at v4
      have hBlt : B.blk < w'.heap.size := f2.blk 0 B (hle 0 B rfl)
      obtain ⟨Bp', Bq', e1, e2, hview⟩ := view f2 k4 hBlt
      rw [hle 1 Bp rfl] at e1; cases e1
      rw [hle 2 Bq rfl] at e2; cases e2
      refine ⟨⟨i + 1, cond b (k + 1) k, hlt, ?_, f3.defers, f3.size, ?_, v4, ?_, vtl, vti, hview, Nat.le_trans gsz f1.size, ?_⟩, ?_⟩
      · cases b <;> simp only [cond_true, cond_false] <;> omega
      · intro ν'; exact VR.closed (m := 3) same _ _ (by rfl) v3
      · intro ν'; exact VR.closed (m := 3) same _ _ (by rfl) vts
      · intro j hj hno
        rw [f1.old j (Nat.lt_of_lt_of_le hj gsz) ?_]
        · exact gold j hj hno
        · intro b' Bb hb'
          unfold inj3 at hb'
          split at hb'
          · cases hb'; exact hno _ _ hι
          · split at hb'
            · cases hb'; obtain ⟨p, hp⟩ := hp; exact hno _ _ hp
            · split at hb'
              · cases hb'; obtain ⟨q, hq⟩ := hq; exact hno _ _ hq
              · cases hb'
      · show n - (RowKit.intOf (a'.tmps.getD T.ti undef)).toNat < n - (RowKit.intOf (a1.tmps.getD T.ti undef)).toNat
        rw [vti, gti]
        simp only [RowKit.intOf, Int.toNat_natCast]
        omega
    | exit id' => cases f4
    | ret => cases f4
  · have hin' : i = n := by omega
    subst hin'
    let ν : Nat → Int := fun _ => i
    have hC : CX.Holds ν := by
      refine ⟨?_, fun _ _ h => by cases h⟩
      intro op a b r hm
      cases hm with
      | head => exact decide_eq_false (show ¬ ((i : Nat) : Int) < (i : Nat) by omega)
      | tail _ hm => cases hm
    have hf : FrOk ν (inj3 B Bp Bq) M Try.f3.ntmps (mkFr (ixs T [])) a1 := by
      refine mkFr_ok (by kernel_rfl) gd gs ?_
      intro p hp
      simp only [ixs, List.mem_cons, List.not_mem_nil, or_false] at hp
      rcases hp with rfl | rfl
      · show VR ν _ (.sym .i64 (.var 2)) (a1.tmps.getD T.tl undef); rw [gtl]; simp only [VR]; rfl
      · show VR ν _ (.sym .i64 (.var 1)) (a1.tmps.getD T.ti undef); rw [gti]; simp only [VR]; rfl
    have hhole : ∀ j y, (j, y) ∈ holes (hE 9) x → HoleOk Try.prog ν base W M Try.f3.ntmps (fun _ : List LV => True) (inj3 B Bp Bq) w1 y ((fun _ _ _ _ => none : HK (List LV)) j) := by
      intro j y _ fr σ k r a2 w2 ι hk
      cases hk
    obtain ⟨R1, R2⟩ := recs_ok (R := List LV) (C := CX) (base := base) (W := W) (ν := ν) mixed hC rfl hnum (fun f p hp => prims2_ok f p hp) 100000 200
    have hex : runH CX (call CX 100000 200) (callV CX 100000 200) 1000 (fun _ _ _ _ => none) (compH Try.prog M Try.f3.ntmps (hE 9) x) (mkFr (ixs T [])) ⟨.e, 3⟩ kX = some [] := exits
    refine wp_mono (runH_ok mixed hC rfl R1 R2 (by decide +kernel) x _ _ _ [] a1 w1 (inj3 B Bp Bq) hhole hex trivial (.refl _ _) ((grep ν).less .e fun _ _ h => by cases h) hf) ?_
    rintro e a' w' ⟨r', hr', o, fr', σ', ι', rfl, f1, f2, f3, f4⟩
    cases o with
    | normal => cases f4
    | exit id' =>
      have f4 : cond (Nat.beq id' T.xid) (some []) none = some r' := f4
      obtain ⟨k1, _⟩ := cond_some f4
      have := natBeq.1 k1
      subst this
      refine hQ a' w' f3.defers f3.size f2.below (Nat.le_trans gsz f1.size) fun j hj hno => ?_
      rw [f1.old j (Nat.lt_of_lt_of_le hj gsz) ?_]
      · exact gold j hj hno
      · intro b' Bb hb'
        unfold inj3 at hb'
        split at hb'
        · cases hb'; exact hno _ _ hι
        · split at hb'
          · cases hb'; obtain ⟨p, hp⟩ := hp; exact hno _ _ hp
          · split at hb'
            · cases hb'; obtain ⟨q, hq⟩ := hq; exact hno _ _ hq
            · cases hb'
    | ret => cases f4
end
end Go.Proofs.Ythignahfnlgolaa.poolDials
