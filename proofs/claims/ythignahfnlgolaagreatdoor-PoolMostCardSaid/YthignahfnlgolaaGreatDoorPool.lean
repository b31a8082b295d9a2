/- The contract of the function that lists a pool's connections, as the symbolic executor asks for it. Conditions: none. -/
import Derived.Test.YthignahfnlgolaaGreatDoorKeys
import Derived.Test.YthignahfnlgolaaGreatDoorEngQ
namespace Go.Proofs.YthignahfnlgolaaGreatDoor
open Go.Eng Go.WideElems Go.Maps Go.RowKit
def R0 : Value → Option (DataW Unit × List MemPlace) := fun _ => some (.nil, [])
theorem allOk : AllOk Tryz.prog 14 7 := by
  intro blk off b ms c keys w hc hm hsz hst hk hwf
  have hkey : ∀ x ∈ ms.toList, ∃ n ∈ keys, x.key = .int .i64 n ∧ rd Tryz.prog 3 R0 x = some (.int .i64 n, .nil) := by
    intro x hx
    have : x.key ∈ keys.map (Value.int .i64) := by rw [← hk]; exact List.mem_map_of_mem hx
    obtain ⟨n, hn, e⟩ := List.mem_map.1 this
    refine ⟨n, hn, e.symm, ?_⟩
    obtain ⟨h1, h2⟩ := hwf n hn
    have hw : (Lit.int .i64 n).wf = true := by
      simp [Lit.wf, IntKind.min, IntKind.max, IntKind.signed, IntKind.bits]
      omega
    obtain ⟨key, val, born⟩ := x
    simp only at e
    subst e
    exact rd_mk (P := Tryz.prog) (k := 3) (R := R0) (key := .int .i64 n) (val := val) (kl := .int .i64 n) (yv := (.nil, [])) (born := born) (by simp [keyOf, Tryz.underlying3, mapKey, hw]) rfl
  have F : Fit Tryz.prog 3 R0 ms c := ⟨Nat.le_trans hsz (by decide), hst, fun x hx => by obtain ⟨n, _, _, h⟩ := hkey x hx; exact ⟨_, h⟩⟩
  have hown := World.ownsMap_of_fit (P := Tryz.prog) (k := 3) (R := R0) hm F (fun _ _ _ h => h)
  have hsize : Maps.size (DataW.map ((ms.toList.map (rg Tryz.prog 3 R0)).foldr DataW.insert [])) = ms.size := by
    simp [Maps.size, length_read]
  have hperm : (Go.intKeys (DataW.map ((ms.toList.map (rg Tryz.prog 3 R0)).foldr DataW.insert []))).Perm keys := by
    have h1 := (Go.WideShapes.sorted_perm (ms.toList.map (rg Tryz.prog 3 R0))).map (fun p => Go.intOf p.1)
    have h2 : (ms.toList.map (rg Tryz.prog 3 R0)).map (fun p => Go.intOf p.1) = keys := by
      rw [List.map_map]
      have : ∀ (l : List MapEntry) (ks : List Int), (∀ x ∈ l, ∃ n, x.key = .int .i64 n ∧ rd Tryz.prog 3 R0 x = some (.int .i64 n, .nil)) → l.map (·.key) = ks.map (Value.int .i64) → l.map ((fun p => Go.intOf p.1) ∘ rg Tryz.prog 3 R0) = ks := by
        intro l
        induction l with
        | nil => intro ks _ h; cases ks <;> simp_all
        | cons x l ih =>
          intro ks hl h
          cases ks with
          | nil => cases h
          | cons n ks =>
            simp only [List.map_cons, List.cons.injEq] at h
            obtain ⟨m, e1, e2⟩ := hl x (List.mem_cons_self ..)
            rw [e1] at h
            have : m = n := by simpa using h.1
            subst this
            simp only [List.map_cons]
            rw [ih ks (fun y hy => hl y (List.mem_cons_of_mem _ hy)) h.2]
            simp [rg, e2, Go.intOf]
      exact this ms.toList keys (fun x hx => by obtain ⟨n, _, h1, h2⟩ := hkey x hx; exact ⟨n, h1, h2⟩) hk
    rw [h2] at h1
    exact h1
  refine (Go.Proofs.Tryz.All (H := Unit) blk off b ms.size _ R0 w hc hown (by rw [hsize]; exact Nat.le_trans hsz (by decide)) (by rw [hsize]; omega)).mono fun e w' he => ?_
  obtain ⟨v, ss, rfl, hp, hrow, hnil, hb⟩ := he
  have hpk := hp.trans hperm
  refine ⟨v, rfl, hb, ?_⟩
  have hms : ss.mergeSort (fun x y => decide (x ≤ y)) = isort keys := by
    have tr : ∀ a b c : Int, decide (a ≤ b) = true → decide (b ≤ c) = true → decide (a ≤ c) = true := fun a b c h1 h2 => by simp only [decide_eq_true_eq] at *; omega
    have to : ∀ a b : Int, (decide (a ≤ b) || decide (b ≤ a)) = true := fun a b => by simp only [Bool.or_eq_true, decide_eq_true_eq]; omega
    refine List.Perm.eq_of_pairwise (le := fun a b => a ≤ b) (fun a b _ _ h1 h2 => by omega) ((List.pairwise_mergeSort tr to ss).imp (by intro a b h; exact of_decide_eq_true h)) (isort_sorted keys) (((List.mergeSort_perm ss _).trans hpk).trans (isort_perm keys).symm)
  have hlen : ss.length = keys.length := hpk.length_eq
  rcases hrow.2 with ⟨h1, h2⟩ | ⟨g, cap, cur, h1, h2, h3, h4, h5, h6, h7⟩
  · refine .inl ⟨?_, h1⟩
    rw [hlen] at h2
    exact List.eq_nil_of_length_eq_zero h2
  · refine .inr ⟨?_, g, cap, cur, 3, by rw [h1, hlen], h2, h3, by omega, by omega, ?_⟩
    · intro hk0
      subst hk0
      have hs0 : ss = [] := List.eq_nil_of_length_eq_zero hlen
      have := hnil.2 hs0
      rw [h1] at this; cases this
    · rw [hms] at h7
      rw [Nat.mul_one, hlen] at h7
      exact h7
set_option maxRecDepth 100000 in
theorem all_prim {ν : Nat → Int} {base : Nat} {W : World} (f : Nat) (p : Prim) (h : primsOf 14 7 f = some p) : PrimOk Tryz.prog ν base W f p := by
  unfold primsOf at h
  cases e : Nat.beq f 14 with
  | false => rw [e] at h; cases h
  | true =>
    rw [e, cond_true] at h
    have h1 := natBeq.1 e
    subst h1
    cases h
    exact allRun_ok allOk ⟨Tryz.f14, Tryz.func14, by kernel_rfl, by kernel_rfl⟩
theorem mixed : Tryz.prog.follows .mixedOrders = true := by kernel_rfl
theorem hnum : ∀ (f : Nat) fn, Tryz.prog.funcs[f]? = some fn → (fn.name == "runtime.NumGoroutine") = false := hnum_of (by kernel_rfl)
end Go.Proofs.YthignahfnlgolaaGreatDoor
