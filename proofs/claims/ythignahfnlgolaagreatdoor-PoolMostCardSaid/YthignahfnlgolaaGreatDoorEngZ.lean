/- A function whose one loop goes over a map of several entries, carried out by the symbolic executor at once. Conditions: none. -/
import Derived.Test.YthignahfnlgolaaGreatDoorEngY
namespace Go.Eng
open Go.RowKit (Below)
noncomputable def mapRun (C : Cfg) (mask nt : Nat) (T : MT) (h : Code → Option Nat) (z : Code) (keep : List Nat) (body : Code) (res : List RV) {R : Type} (args : List LV) (σ : St) (k : K R) : Option R :=
  cond (Nat.ble (lenL args) 1000000) (runH C (call C 1000 50) (callV C 1000 50) 1000 (mapHole C mask T (compH C.P mask nt h z) keep) (compH C.P mask nt hL body) (frameOf mask .e 0 args) σ (retK res k)) none
section
variable {ν : Nat → Int} {base : Nat} {W : World} {P : Program}
theorem mapRun_ok (hmix : P.follows .mixedOrders = true) {C : Cfg} (hC : C.Holds ν) (hP : C.P = P) (hnum : ∀ (f : Nat) fn, P.funcs[f]? = some fn → (fn.name == "runtime.NumGoroutine") = false) (hprims : ∀ base W f p, C.prims f = some p → PrimOk P ν base W f p)
    {mask : Nat} {f : Nat} {fn : Func} {body : Code} (hfn : P.funcs[f]? = some fn) (hbody : fn.body = some body) (hnt : fn.ntmps ≤ 100000) {T : MT} {h : Code → Option Nat} {keep : List Nat} {z : Code} {i8 i9 q8 q9 : Nat} {ops8 ops9 : Array Oper} {p0 p1 o0 o1 o2 : Oper}
    (hl : holes hL body = [(q8, .loop (.seq (.region i8 ops8 false) z))]) (hh : holes h z = [(q9, .region i9 ops9 false)])
    (s8 : ops8.size = 2) (h80 : ops8[0]? = some p0) (h81 : ops8[1]? = some p1) (g80 : p0.guard = none) (g81 : p1.guard = none) (e80 : p0.op = .next (.tmp T.it) false) (e81 : p1.op = .extract (.tmp T.n0) 0) (d80 : p0.dst = some T.n0) (d81 : p1.dst = some T.n1)
    (s9 : ops9.size = 3) (h90 : ops9[0]? = some o0) (h91 : ops9[1]? = some o1) (h92 : ops9[2]? = some o2) (g90 : o0.guard = none) (g91 : o1.guard = none) (g92 : o2.guard = none) (e90 : o0.op = .entry (.tmp T.it)) (e91 : o1.op = .extract (.tmp T.d0) 1) (e92 : o2.op = .assign (.tmp T.d1))
    (d90 : o0.dst = some T.d0) (d91 : o1.dst = some T.d1) (d92 : o2.dst = some T.d2) (hlt : T.n0 < fn.ntmps ∧ T.n1 < fn.ntmps ∧ T.d0 < fn.ntmps ∧ T.d1 < fn.ntmps ∧ T.d2 < fn.ntmps) :
    PrimOk P ν base W f ⟨fun args σ k => mapRun C mask fn.ntmps T h z keep body (fn.results.toList.map (cRes P)) args σ k⟩ := by
  intro R args σ k r ι w vs hk H hv
  refine ERes_of_calls ⟨⟨fn, hfn, hnum f fn hfn, by rw [hbody]; rfl⟩, ?_⟩
  obtain ⟨hlen, hk⟩ := cond_some (show cond (Nat.ble (lenL args) 1000000) _ none = some r from hk)
  have hlen : args.length ≤ 1000000 := by have := natBle.1 hlen; rwa [lenL_eq] at this
  rw [hP] at hk
  have hrecs : CallOk P ν base W (callF C (call C 1000 50 : CallK R)) ∧ CallOk P ν base W (callF C (callV C 1000 50)) := recs_ok hmix hC hP hnum (hprims base W) 1000 50
  refine (callH_ok (ok := fun r' => r' = r) hmix hC hP hrecs.1 hrecs.2 hfn hbody hnt rfl hlen ?_ hk H hv).mono ?_
  · intro i x hx
    rw [hl] at hx
    cases List.mem_singleton.1 hx
    exact mapLoop_ok hmix hC hP hnum hprims hnt hh s8 h80 h81 g80 g81 e80 e81 d80 d81 s9 h90 h91 h92 g90 g91 g92 e90 e91 e92 d90 d91 d92 hlt _
  · rintro e w' ⟨r', rfl, u, rfl, hp⟩
    exact ⟨u, rfl, hp⟩
end
end Go.Eng
