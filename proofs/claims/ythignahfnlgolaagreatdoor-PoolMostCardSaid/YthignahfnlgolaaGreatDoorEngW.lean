/- A loop over a map of several entries, whichever comes next: each round is run by the symbolic executor from what stands ahead of the loop. Conditions: none. -/
import Derived.Test.YthignahfnlgolaaGreatDoorEngI
import Derived.Deep.LoopGhost
namespace Go.Eng
open Go.RowKit (Below)
/-- the temporaries of such a loop: the iterator; what comes next, whether there is one; the entry, its value, twice; how the loop is left -/
structure MT where
  it : Nat
  n0 : Nat
  n1 : Nat
  d0 : Nat
  d1 : Nat
  d2 : Nat
  xid : Nat
noncomputable section
variable {α : Type}
def Tr.mapo (f : α → Option α) (t : Tr α) : Tr α := Tr.rec (motive := fun _ => Tr α) .e (fun v _ _ l r => .n (Option.rec none (fun x => f x) v) l r) t
/-- objects that are read alone -/
def frzO (o : LO) : Option LO := match o with | .cells cs c _ => some (.cells cs c 3) | _ => none
def frz (σ : St) : St := ⟨Tr.mapo frzO σ.hp, σ.nx⟩
def afterNext (mask : Nat) (T : MT) (b : Bool) (fr : Fr) : Fr := keepV (keepV fr .bad (keepIn mask (some T.n0))) (.bool b) (keepIn mask (some T.n1))
def afterEnt (mask : Nat) (T : MT) (v : LV) (fr : Fr) : Fr := keepV (keepV (keepV fr .bad (keepIn mask (some T.d0))) v (keepIn mask (some T.d1))) v (keepIn mask (some T.d2))
def hdM (mask : Nat) (T : MT) (it : Nat) (v : LV) : HK Unit := fun _ fr σ k => cond (LV.beq (.ptr it 0) (getV (fr.get T.it))) (k .normal (afterEnt mask T v fr) σ) none
def kRoundM (l : AS) : ExK Unit := fun o fr _ => match o with | .normal => cond (fits1 fr l) (some ()) none | _ => none
def kExitM (xid : Nat) (l : AS) : ExK Unit := fun o fr _ => match o with | .exit id => cond (Nat.beq id xid && fits1 fr l) (some ()) none | _ => none
def simpleV (v : LV) : Bool := match v with | .bool _ | .int .. | .str _ | .ptr .. | .nilptr | .map _ | .nilmap => true | _ => false
def asK (fr : Fr) (keep : List Nat) : AS := List.rec [] (fun t _ ih => (t, getV (fr.get t)) :: ih) keep
def roundM (C : Cfg) (mask : Nat) (T : MT) (z : CH) (it : Nat) (l : AS) (σ : St) (v : LV) : Bool :=
  isSm (runH C (call C 1000 50) (callV C 1000 50) 1000 (hdM mask T it v) z (afterNext mask T true (mkFr l)) σ (kRoundM l))
def exitM (C : Cfg) (mask : Nat) (T : MT) (z : CH) (l : AS) (σ : St) : Bool :=
  isSm (runH C (call C 1000 50) (callV C 1000 50) 1000 (fun _ _ _ _ => none) z (afterNext mask T false (mkFr l)) σ (kExitM T.xid l))
def allE (f : LV → Bool) (es : List (LV × LV × Nat)) : Bool := List.rec true (fun e _ ih => cond (f e.2.1) ih false) es
def mapHole (C : Cfg) (mask : Nat) (T : MT) (z : CH) (keep : List Nat) {R : Type} : HK R := fun _ fr σ k => match getV (fr.get T.it) with
  | .ptr it 0 => (match σ.hp.get it with
    | some (.mit (some m) since [] last) => withMap σ m fun es c =>
      cond (Nat.beq c since && Nat.beq c last && keysOk mask ((T.it, .ptr it 0) :: asK fr keep) && (asK fr keep).all (fun p => simpleV p.2) &&
        exitM C mask T z ((T.it, .ptr it 0) :: asK fr keep) (frz σ) && allE (roundM C mask T z it ((T.it, .ptr it 0) :: asK fr keep) (frz σ)) es)
        (k (.exit T.xid) (mkFr ((T.it, .ptr it 0) :: asK fr keep)) ⟨σ.hp.set it none, σ.nx⟩) none
    | _ => none)
  | _ => none
end
theorem Tr.get_mapo {α : Type} (f : α → Option α) (t : Tr α) : ∀ j, (Tr.mapo f t).get j = (t.get j).bind f := by
  induction t with
  | e => intro j; rfl
  | n v l r ihl ihr =>
    intro j
    show Tr.get (.n (Option.rec none (fun x => f x) v) (Tr.mapo f l) (Tr.mapo f r)) j = _
    cases j with
    | zero => cases v <;> rfl
    | succ j =>
      rw [Tr.get_succ, Tr.get_succ, ihl, ihr]
      split <;> rfl
theorem allE_mem {f : LV → Bool} : ∀ {es : List (LV × LV × Nat)}, allE f es = true → ∀ e ∈ es, f e.2.1 = true
  | [], _, e, he => by cases he
  | x :: es, h, e, he => by
    have h : cond (f x.2.1) (allE f es) false = true := h
    cases q : f x.2.1 with
    | false => rw [q] at h; cases h
    | true =>
      rw [q, cond_true] at h
      cases he with
      | head => exact q
      | tail _ he => exact allE_mem h e he
theorem isSm_some {o : Option Unit} (h : isSm o = true) : o = some () := by cases o with | none => cases h | some u => rfl
theorem asK_mem {fr : Fr} : ∀ {keep : List Nat} {p : Nat × LV}, p ∈ asK fr keep → p.2 = getV (fr.get p.1)
  | [], p, h => by cases h
  | t :: keep, p, h => by
    have h : p ∈ (t, getV (fr.get t)) :: asK fr keep := h
    cases h with
    | head => rfl
    | tail _ h => exact asK_mem h
theorem unseen_eq (seen : List Nat) : ∀ es : List (LV × LV × Nat), unseen seen es = es.filter fun e => !(seen.any (Nat.beq e.2.2))
  | [] => rfl
  | (x, v, n) :: es => by
    simp only [unseen, List.filter_cons]
    cases seen.any (Nat.beq n) with
    | true => simp [unseen_eq seen es]
    | false => simp [unseen_eq seen es]
theorem unseen_lt {seen : List Nat} {es : List (LV × LV × Nat)} {e : LV × LV × Nat} (h : e ∈ unseen seen es) : (unseen (seen ++ [e.2.2]) es).length < (unseen seen es).length := by
  have h1 : unseen (seen ++ [e.2.2]) es = (unseen seen es).filter fun x => !(Nat.beq x.2.2 e.2.2) := by
    rw [unseen_eq, unseen_eq, List.filter_filter]
    congr 1
    funext x
    rw [List.any_append]
    simp [Bool.and_comm]
  rw [h1, List.length_filter_lt_length_iff_exists]
  exact ⟨e, h, by simp⟩
theorem stamp_some {b : Nat} : ∀ {es : List (LV × LV × Nat)} {e : LV × LV × Nat}, e ∈ es → e.2.2 = b → ∃ x v, (x, v, b) ∈ es ∧ stamp b (fun y => some y) es = some (.tup [x, v])
  | [], e, h, _ => by cases h
  | (x, v, n) :: es, e, h, hb => by
    cases q : Nat.beq n b with
    | true =>
      have := natBeq.1 q; subst this
      exact ⟨x, v, List.mem_cons_self .., by simp only [stamp, q, cond_true]⟩
    | false =>
      cases h with
      | head => rw [← hb] at q; rw [show Nat.beq n n = true from Nat.beq_refl n] at q; cases q
      | tail _ h =>
        obtain ⟨x', v', h1, h2⟩ := stamp_some h hb
        exact ⟨x', v', List.mem_cons_of_mem _ h1, by simp only [stamp, q, cond_false]; exact h2⟩
section
variable {ν : Nat → Int} {base : Nat} {W w w' : World} {σ : St} {ι ι' : Inj} {P : Program}
theorem VR.back {x : LV} {u v : Value} (hs : simpleV x = true) (h0 : VR ν ι x u) (hle : ι.le ι') (h : VR ν ι' x v) : VR ν ι x v := by
  cases x <;> first | (cases hs; done) | skip
  case ptr b o =>
    simp only [VR] at h0 h ⊢
    obtain ⟨B, hB, _⟩ := h0
    obtain ⟨B', hB', e⟩ := h
    rw [hle _ _ hB] at hB'; cases hB'
    exact ⟨_, hB, e⟩
  case map b =>
    simp only [VR] at h0 h ⊢
    obtain ⟨B, hB, _⟩ := h0
    obtain ⟨B', hB', e⟩ := h
    rw [hle _ _ hB] at hB'; cases hB'
    exact ⟨_, hB, e⟩
  all_goals (simp only [VR] at h ⊢; exact h)
theorem Rep.frozen (H : Rep ν base W σ ι w) : Rep ν w.heap.size w (frz σ) ι w := by
  have hg : ∀ b o, (frz σ).hp.get b = some o → ∃ cs c s, o = .cells cs c 3 ∧ σ.hp.get b = some (.cells cs c s) := by
    intro b o h
    have h : (Tr.mapo frzO σ.hp).get b = some o := h
    rw [Tr.get_mapo] at h
    cases e : σ.hp.get b with
    | none => rw [e] at h; cases h
    | some x =>
      rw [e] at h
      cases x with
      | cells cs c s => cases h; exact ⟨cs, c, s, rfl, rfl⟩
      | map => cases h
      | mit => cases h
  refine ⟨Below.refl _ _, Nat.le_refl _, ?_, H.fresh, H.blk, ?_, ?_, H.nx⟩
  · intro b o h
    obtain ⟨cs, c, s, rfl, h1⟩ := hg b o h
    obtain ⟨B, arr, e, fz, g1, g2, g3, g4, g5, g6, g7, _⟩ := H.obj _ _ h1
    exact ⟨B, arr, e, fz, g1, g2, g3, g4, g5, g6, g7, .inl rfl⟩
  · intro b cs c s h
    obtain ⟨cs', c', s', e, h1⟩ := hg b _ h
    cases e
    exact H.cls _ _ _ _ h1
  · intro b b' o o' B B' _ h1 h2 _ _ _
    obtain ⟨_, _, _, rfl, _⟩ := hg b _ h1
    obtain ⟨_, _, _, rfl, _⟩ := hg b' _ h2
    exact .inl ⟨rfl, rfl⟩

/-! ## whichever comes next -/
theorem choose_ok (n : Nat) (hn : 0 < n) : ∃ i w1, (choose (.mapNext n)).run P w = .ok i w1 ∧ i < n ∧ (w1 = w ∨ w1 = w.drew) := by
  rw [run_choose]
  split
  · exact ⟨0, w, rfl, hn, .inl rfl⟩
  · exact ⟨_, w.drew, rfl, Nat.mod_lt _ hn, .inr rfl⟩
theorem ERs.at_ : ∀ {l : List (LV × LV × Nat)} {ms : List MapEntry} {i : Nat} {m : MapEntry}, ERs ν ι l ms → ms[i]? = some m → ∃ e ∈ l, m.born = e.2.2
  | [], ms, i, m, h, hi => by
    have h : ms = [] := h
    subst h; simp at hi
  | e :: r, ms, i, m, h, hi => by
    obtain ⟨m1, t, rfl, h1, h2, h3, h4⟩ := h
    cases i with
    | zero =>
      simp only [List.getElem?_cons_zero, Option.some.injEq] at hi
      subst hi
      exact ⟨e, List.mem_cons_self .., h3⟩
    | succ i =>
      simp only [List.getElem?_cons_succ] at hi
      obtain ⟨e', g1, g2⟩ := ERs.at_ h4 hi
      exact ⟨e', List.mem_cons_of_mem _ g1, g2⟩
theorem next_many (H : Rep ν base W σ ι w) {it m c : Nat} {seen : List Nat} {es : List (LV × LV × Nat)} {B : Blk} (hB : ι it = some B) (hb : σ.hp.get it = some (.mit (some m) c seen c)) (hb' : σ.hp.get m = some (.map es c)) (ty : TypeId) :
    (unseen seen es = [] ∧ (Instr.next (.pointer (some ⟨B.blk, B.base + 0, none⟩)) false ty).run P w = .ok (.tuple #[.bool false]) w) ∨
    ∃ e ∈ unseen seen es, ∃ kx vx w', (Instr.next (.pointer (some ⟨B.blk, B.base + 0, none⟩)) false ty).run P w = .ok (.tuple #[.bool true, kx, vx]) w' ∧
      Rep ν base W ⟨σ.hp.set it (some (.mit (some m) c (seen ++ [e.2.2]) c)), σ.nx⟩ ι w' ∧ Step ι w ι w' := by
  obtain ⟨B1, m', hB1, h2, hbase1, h3, h4⟩ := H.obj _ _ hb
  rw [hB] at hB1; cases hB1
  obtain ⟨B2, hB2, rfl⟩ := h4
  have hgo := getObj_run (P := P) h3 (fun _ _ _ => by simp)
  obtain ⟨B3, ms, hB3, _, hg, he, hlt⟩ := H.obj _ _ hb'
  rw [hB2] at hB3; cases hB3
  have hgo2 := getObj_run (P := P) hg (fun _ _ _ => by simp)
  have hun := unseen_ok (seen := seen) he
  have hborn := he.born hlt
  have hall : (!seen.toArray.isEmpty && !ms.isEmpty && ms.all fun e => decide (e.born ≥ c)) = false := by
    cases e1 : ms.isEmpty with
    | true => simp
    | false =>
      have : ∃ m, m ∈ ms := by
        cases hms : ms.toList with
        | nil => have : ms = #[] := Array.ext' (by simpa using hms); subst this; cases e1
        | cons m t => exact ⟨m, by rw [← Array.mem_toList_iff, hms]; exact List.mem_cons_self ..⟩
      obtain ⟨m, hm⟩ := this
      have hb1 := hborn m (by simpa using hm)
      have : (ms.all fun e => decide (e.born ≥ c)) = false := by
        rw [Bool.eq_false_iff]
        intro h
        rw [Array.all_eq_true'] at h
        have := h m hm
        simp at this; omega
      rw [this]; simp
  have hold : (ms.filter fun e => !seen.toArray.contains e.born).filter (fun e => decide (e.born < c)) = ms.filter fun e => !seen.toArray.contains e.born := by
    rw [Array.filter_eq_self]
    intro m hm
    have := (Array.mem_filter.1 hm).1
    simpa using hborn m (by simpa using this)
  have hnew : (ms.filter fun e => !seen.toArray.contains e.born).filter (fun e => decide (e.born ≥ c)) = #[] := by
    rw [Array.filter_eq_empty_iff]
    intro m hm
    have := (Array.mem_filter.1 hm).1
    have := hborn m (by simpa using this)
    simp; omega
  have hleft : (ms.filter fun e => !seen.toArray.contains e.born).toList = ms.toList.filter fun e => !seen.toArray.contains e.born := by simp
  rw [h2]
  generalize hL : (ms.filter fun e => !seen.toArray.contains e.born) = L at hold hnew hleft
  rw [← hleft] at hun
  by_cases hemp : L = #[]
  · refine .inl ⟨?_, ?_⟩
    · subst hemp
      cases hu : unseen seen es with
      | nil => rfl
      | cons e t => rw [hu] at hun; obtain ⟨_, _, q, _⟩ := hun; cases q
    · simp only [Instr.next, Sem.run_bind, hgo, Result.andThen_ok, hgo2, hall, hL, hemp]
      simp [Question.forced]
  · right
    have hsz : 0 < L.size := Array.size_pos_iff.2 hemp
    obtain ⟨i, w1, hch, hi, hw1⟩ := choose_ok (P := P) (w := w) L.size hsz
    obtain ⟨e, heu, hee⟩ := ERs.at_ (i := i) (m := L[i]) hun (by simp [hi])
    have H1 : Rep ν base W σ ι w1 ∧ Step ι w ι w1 ∧ w1.heap = w.heap := by
      rcases hw1 with rfl | rfl
      · exact ⟨H, .refl _ _, rfl⟩
      · exact ⟨H.drew, .drew _ _, rfl⟩
    obtain ⟨H1, S1, hheap⟩ := H1
    rw [← hheap] at h3
    have hset : ∀ o', (setObj B.blk o').run P w1 = .ok () { w1 with heap := w1.heap.setIfInBounds B.blk o' } := fun o' => setObj_run h3 (fun _ _ _ => by simp)
    have hch2 := H1.change (o := .mit (some m) c (seen ++ [e.2.2]) c) hB hbase1 (alone_not_cells H1 hb hB (fun _ _ _ q => by cases q)) (Chg.setObj (o' := .mapIter (some B2.blk) c (seen ++ [e.2.2]).toArray c) h3)
      ⟨B, _, hB, h2, hbase1, (Chg.setObj h3).at_, B2, hB2, rfl⟩ (fun _ _ _ q => by cases q)
    refine ⟨e, heu, (L[i]).key, (L[i]).val, _, ?_, hch2.1, S1.trans hch2.2⟩
    have hne : L.isEmpty = false := by cases q : L.isEmpty with | false => rfl | true => exact absurd (by simpa using q) hemp
    have hcand : ((if L.isEmpty = true then #[none] else #[]) ++ (L ++ #[]).map some) = L.map some := by rw [hne]; simp
    simp only [Instr.next, Sem.run_bind, hgo, Result.andThen_ok, hgo2, hall, hL, hold, hnew]
    have hsz2 : (L.map some).size = L.size := by simp
    simp only [Bool.false_eq_true, if_false, hcand, hsz2, hch, Sem.run_bind, Result.andThen_ok]
    have hget : (L.map some)[i]? = some (some L[i]) := by simp [hi]
    simp only [hget, Sem.run_bind, hset, Result.andThen_ok, hee]
    simp
end
end Go.Eng
