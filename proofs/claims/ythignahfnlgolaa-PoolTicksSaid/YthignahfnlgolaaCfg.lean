/- How the symbolic executor runs this seat's laws: which temporaries it keeps, which functions it carries out by their contracts. Conditions: none. -/
import Derived.Test.YthignahfnlgolaaPool
import Derived.Test.YthignahfnlgolaaEngT
import Derived.KernelRfl
namespace Go.Proofs.Ythignahfnlgolaa
open Go.Eng
def masks : List Nat := [0, 0, 0, 77371252473491437668927325, 2508777460791972466675, 149879874832446785479, 4294967359, 32791, 17592186044415, 1029, 2053, 21, 83, 17, 2077, 134217727, 2147487597, 2147491565, 17613797196499, 526253, 295147905179352825855, 13, 7, 2053, 62914887, 5, 37, 8913469, 5, 525, 261, 21, 1, 261, 1, 8197, 1043, 525, 127075, 5, 5, 8363, 5, 5, 5, 590295810358705651711, 2097151, 1073743837, 37, 67108863, 247, 21778071482940061661655974875633165533183, 5, 537399539, 5165, 5, 93, 5, 7, 563, 562949953421311, 72057594037927935, 36893488147419103231, 20829169751433159, 4294967295, 10889035741470030830827987437816582766591, 19, 19342813113834066795298815, 374144419156711147060143317175368453031918731001855, 277, 16661, 66483, 19, 16383, 75557863725914323419135, 5, 8589934591, 71, 1055, 5, 356811923176489970264571492362373784095686655, 268435455, 9007199254740991, 1152921504606846975, 147573952589676412927, 1333065575601045263, 17179869183, 2787593149816327892691964784081045188247551, 1237940039285380274899124223, 383123885216472214589586756787577295904684780545900543, 4835703278458516698824703, 271, 4159, 4294967295, 0, 0, 0, 0, 0, 0, 0, 0, 0, 0, 0, 0, 0, 0, 0, 0, 0, 0, 0, 0, 0, 0, 0, 0]
noncomputable def prims2 (f : Nat) : Option Prim := cond (Nat.beq f 6) (some ⟨fun args σ k => trueRun args σ k⟩) (primsOf 11 7 f)
noncomputable def C1 : Cfg := ⟨Try.prog, fun f => masks.getD f 0, primsOf 11 7, [], []⟩
noncomputable def C2 : Cfg := ⟨Try.prog, fun f => masks.getD f 0, prims2, [], []⟩
theorem alive_run : call C1 100000 200 6 [] ⟨.e, 0⟩ isTrue = some () := by kernel_rfl
theorem alive_ok (w : World) : Calls Try.prog 6 #[] w fun e w' => e = .returned (.bool true) ∧ Go.RowKit.Below w.heap.size w w' :=
  law_run2 (C := C1) (ν := fun _ => 0) mixed ⟨fun _ _ _ _ h => (by cases h), fun _ _ h => (by cases h)⟩ hnum (fun f p h => all_prim f p h) alive_run (repE _ w) VRs_nil
theorem prims2_ok {ν : Nat → Int} {base : Nat} {W : World} (f : Nat) (p : Prim) (h : prims2 f = some p) : PrimOk Try.prog ν base W f p := by
  unfold prims2 at h
  cases e : Nat.beq f 6 with
  | false => rw [e, cond_false] at h; exact all_prim f p h
  | true =>
    rw [e, cond_true] at h
    have h1 := natBeq.1 e
    subst h1
    cases h
    exact trueRun_ok alive_ok ⟨Try.f6, Try.func6, by kernel_rfl, by kernel_rfl⟩
end Go.Proofs.Ythignahfnlgolaa
