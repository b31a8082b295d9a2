/- How the symbolic executor runs this seat's law: which temporaries it keeps, which functions it carries out by their contracts. Conditions: none. -/
import Derived.Test.YthignahfnlgolaaGreatDoorPool
import Derived.Test.YthignahfnlgolaaGreatDoorEngT
import Derived.Test.YthignahfnlgolaaGreatDoorEngZ
import Derived.KernelRfl
namespace Go.Proofs.YthignahfnlgolaaGreatDoor
open Go.Eng
set_option maxRecDepth 100000
def masks : List Nat := [0, 0, 0, 20282412021503314157115002588147, 4294967359, 32791, 17613797196499, 1029, 17592186044415, 2077, 83, 162259276829213363391578010288127, 5, 5, 21, 2147487597, 2053, 526253, 295147905179352825855, 2053, 2097151, 614760040833745151, 157, 21, 5, 21, 36031013239982023, 525, 1073741823, 309485009821345068724781055, 5, 13, 7, 37, 5, 525, 261, 21, 1, 261, 1, 8197, 1043, 127075, 21, 1005, 4433182909, 536903933, 627, 71613471, 5, 8891928335, 17592186044415, 537399539, 5, 5, 274886328007, 18889465931478580854783, 140737488355327, 5, 5, 8363, 1073743837, 37, 67108863, 144695732363056883, 7, 19, 135091, 19, 15, 5, 4157, 4109, 2067, 199, 2251799813685247, 66483, 5165, 5, 8247, 247, 21778071482940061661655974875633165533183, 5, 5, 7, 563, 19, 8429, 16567, 262381, 19, 66483, 8796093022207, 73861163094217066365, 17247509535, 562949953421311, 9007216719824839, 16635, 21, 2199023255551, 133, 19, 16383, 562949953421311, 72057594037927935, 36893488147419103231, 20829169751433159, 4294967295, 10889035741470030830827987437816582766591, 19, 19342813113834066795298815, 374144419156711147060143317175368453031918731001855, 277, 16661, 66483, 132109, 8211, 65555, 66109, 4243, 32915, 262771, 67240563, 594912002450663878599, 2047, 2047, 71, 71, 5, 524287, 15, 39614081257132168796771975167, 477, 18446744073709551615, 356811923176489970264571492362373784095686655, 75557863725914323419135, 5, 8589934591, 71, 1055, 5, 19, 1037, 19, 281518060864637, 749019592093908130998168547243562859198691857383367, 77, 5, 5, 1, 21, 0, 3, 21, 16957, 9007199254740991, 1152921504606846975, 147573952589676412927, 1333065575601045263, 17179869183, 2787593149816327892691964784081045188247551, 1237940039285380274899124223, 383123885216472214589586756787577295904684780545900543, 268435455, 316912838952437276284744179709, 196159429230833773869868419475239575503198607639501078527, 5, 5, 3259264009699125022261772349, 5, 3, 19, 17580861, 4835703278458516698824703, 271, 4159, 1037, 5, 0, 17188391667, 268435455, 19, 4294967295, 21, 13, 187072209578355573530071658587684226515959365500927, 20426010943356750102455122975, 0, 5, 13, 5, 5, 21, 21, 0, 0, 0, 0, 0, 0, 0, 0, 0, 0, 0, 0, 0, 0, 0, 0, 0, 0, 0, 0, 0, 0, 0, 0, 0, 0, 0, 0, 0, 0, 0, 0, 0, 0, 0, 0, 0]
noncomputable def prims1 (f : Nat) : Option Prim := cond (Nat.beq f 188) (some ⟨fun args σ k => ixRun args σ k⟩) (primsOf 14 7 f)
noncomputable def C1 (l : List (BinOp × E × E × Bool)) : Cfg := ⟨Tryz.prog, fun f => masks.getD f 0, prims1, l, []⟩
theorem prims1_ok {ν : Nat → Int} {base : Nat} {W : World} (f : Nat) (p : Prim) (h : prims1 f = some p) : PrimOk Tryz.prog ν base W f p := by
  unfold prims1 at h
  cases e : Nat.beq f 188 with
  | false => rw [e, cond_false] at h; exact all_prim f p h
  | true =>
    rw [e, cond_true] at h
    have h1 := natBeq.1 e
    subst h1
    cases h
    exact ixRun_ok Tryz.func188 (by kernel_rfl) (by kernel_rfl) (by kernel_rfl) (by kernel_rfl)
theorem C1_holds {ν : Nat → Int} {l : List (BinOp × E × E × Bool)} (h : Facts ν l) : (C1 l).Holds ν := ⟨h, fun _ _ h => (by cases h)⟩
theorem alive_run : call (C1 []) 100000 200 4 [] ⟨.e, 0⟩ isTrue = some () := by kernel_rfl
theorem alive_ok (w : World) : Calls Tryz.prog 4 #[] w fun e w' => e = .returned (.bool true) ∧ Go.RowKit.Below w.heap.size w w' :=
  law_run2 (C := C1 []) (ν := fun _ => 0) mixed (C1_holds Facts.nil) hnum (fun f p h => prims1_ok f p h) alive_run (repE _ w) VRs_nil
namespace wants
noncomputable def body : Code := match Tryz.f6.body with | some c => c | none => .skip
noncomputable def x : Code := loopOf (holes hL body)
noncomputable def z : Code := match x with | .seq _ c => c | _ => .skip
noncomputable def ops8 : Array Oper := match x with | .seq (.region _ o _) _ => o | _ => #[]
noncomputable def ops9 : Array Oper := opsOf (holes (hE 9) z)
noncomputable def op8 (i : Nat) : Oper := match ops8[i]? with | some o => o | none => default
noncomputable def op9 (i : Nat) : Oper := match ops9[i]? with | some o => o | none => default
noncomputable def M : Nat := masks.getD 6 0
def T : MT := ⟨32, 33, 34, 35, 36, 9, 0⟩
noncomputable def run (l : List (BinOp × E × E × Bool)) {R : Type} (args : List LV) (σ : St) (k : K R) : Option R := mapRun (C1 l) M Tryz.f6.ntmps T (hE 9) z [0, 7] body (Tryz.f6.results.toList.map (cRes Tryz.prog)) args σ k
theorem body_eq : Tryz.f6.body = some body := by kernel_rfl
theorem holes_body : holes hL body = [(0, .loop (.seq (.region 8 ops8 false) z))] := by kernel_rfl
theorem holes_z : holes (hE 9) z = [(1, .region 9 ops9 false)] := by kernel_rfl
theorem ok {ν : Nat → Int} {base : Nat} {W : World} {l : List (BinOp × E × E × Bool)} (h : Facts ν l) : PrimOk Tryz.prog ν base W 6 ⟨fun args σ k => run l args σ k⟩ :=
  mapRun_ok (C := C1 l) (p0 := op8 0) (p1 := op8 1) (o0 := op9 0) (o1 := op9 1) (o2 := op9 2) mixed (C1_holds h) rfl hnum (fun base W f p h => prims1_ok f p h) Tryz.func6 body_eq (by decide +kernel) holes_body holes_z (by kernel_rfl) (by kernel_rfl) (by kernel_rfl) (by kernel_rfl) (by kernel_rfl)
    (by kernel_rfl) (by kernel_rfl) (by kernel_rfl) (by kernel_rfl) (by kernel_rfl) (by kernel_rfl) (by kernel_rfl) (by kernel_rfl) (by kernel_rfl) (by kernel_rfl) (by kernel_rfl) (by kernel_rfl) (by kernel_rfl) (by kernel_rfl) (by kernel_rfl) (by kernel_rfl) (by kernel_rfl) (by decide +kernel)
end wants
noncomputable def prims2 (l : List (BinOp × E × E × Bool)) (f : Nat) : Option Prim := cond (Nat.beq f 4) (some ⟨fun args σ k => trueRun args σ k⟩) (cond (Nat.beq f 6) (some ⟨fun args σ k => wants.run l args σ k⟩) (prims1 f))
theorem prims2_ok {ν : Nat → Int} {base : Nat} {W : World} {l : List (BinOp × E × E × Bool)} (hl : Facts ν l) (f : Nat) (p : Prim) (h : prims2 l f = some p) : PrimOk Tryz.prog ν base W f p := by
  unfold prims2 at h
  cases e : Nat.beq f 4 with
  | false =>
    rw [e, cond_false] at h
    cases e2 : Nat.beq f 6 with
    | false => rw [e2, cond_false] at h; exact prims1_ok f p h
    | true =>
      rw [e2, cond_true] at h
      have h1 := natBeq.1 e2
      subst h1
      cases h
      exact wants.ok hl
  | true =>
    rw [e, cond_true] at h
    have h1 := natBeq.1 e
    subst h1
    cases h
    exact trueRun_ok alive_ok ⟨Tryz.f4, Tryz.func4, by kernel_rfl, by kernel_rfl⟩
end Go.Proofs.YthignahfnlgolaaGreatDoor
