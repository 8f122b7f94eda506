/- Contracts of the functions of the program. -/
import Derived.Test.YthbkdnojneffdaaTf
import Derived.Test.YthbkdnojneffdaaL12d
namespace Go.Proofs.Ythbkdnojneffdaa
open Go.Am

theorem c9 : SpecOk Try.prog 9 (law12_light.sp) :=
  specOk_of (g := t9) (fns := []) (cds := cds) Try.func9 t9_ok t9_dr mixed (.nil) eqs_ok (fun a ha => (by kernel_rfl : _ = law12_light.G iter a).trans (law12_light.ok a ha))
theorem c32 : SpecOk Try.prog 32 (ident_based.sp) :=
  specOk_of (g := t32) (fns := []) (cds := cds) Try.func32 t32_ok t32_dr mixed (.nil) eqs_ok (fun a ha => (by kernel_rfl : _ = ident_based.G iter a).trans (ident_based.ok a ha))
theorem c26 : SpecOk Try.prog 26 (ident_Valid.sp) :=
  specOk_of (g := t26) (fns := [(32, ident_based.sp)]) (cds := cds) Try.func26 t26_ok t26_dr mixed (.cons c32 rfl (.nil)) eqs_ok (fun a ha => (by kernel_rfl : _ = ident_Valid.G iter a).trans (ident_Valid.ok a ha))
theorem c34 : SpecOk Try.prog 34 (cmp_isNaN.sp) :=
  specOk_of (g := t34) (fns := []) (cds := cds) Try.func34 t34_ok t34_dr mixed (.nil) eqs_ok (fun a ha => (by kernel_rfl : _ = cmp_isNaN.G iter a).trans (cmp_isNaN.ok a ha))
theorem c33 : SpecOk Try.prog 33 (cmp_Compare.sp) :=
  specOk_of (g := t33) (fns := [(34, cmp_isNaN.sp)]) (cds := cds) Try.func33 t33_ok t33_dr mixed (.cons c34 rfl (.nil)) eqs_ok (fun a ha => (by kernel_rfl : _ = cmp_Compare.G iter a).trans (cmp_Compare.ok a ha))
theorem c27 : SpecOk Try.prog 27 (cells_compare.sp) :=
  specOk_of (g := t27) (fns := [(33, cmp_Compare.sp)]) (cds := cds) Try.func27 t27_ok t27_dr mixed (.cons c33 rfl (.nil)) eqs_ok (fun a ha => (by kernel_rfl : _ = cells_compare.G iter a).trans (cells_compare.ok a ha))
theorem c13 : SpecOk Try.prog 13 (cells_Writes.sp) :=
  specOk_of (g := t13) (fns := [(26, ident_Valid.sp), (27, cells_compare.sp)]) (cds := cds) Try.func13 t13_ok t13_dr mixed (.cons c26 rfl (.cons c27 rfl (.nil))) eqs_ok (fun a ha => (by kernel_rfl : _ = cells_Writes.G iter a).trans (cells_Writes.ok a ha))
theorem c11 : SpecOk Try.prog 11 (cells_Valid.sp) :=
  specOk_of (g := t11) (fns := [(13, cells_Writes.sp)]) (cds := cds) Try.func11 t11_ok t11_dr mixed (.cons c13 rfl (.nil)) eqs_ok (fun a ha => (by kernel_rfl : _ = cells_Valid.G iter a).trans (cells_Valid.ok a ha))
theorem c16 : SpecOk Try.prog 16 (cells_Put.sp 31) :=
  specOk_of (g := t16) (fns := [(11, cells_Valid.sp), (13, cells_Writes.sp), (27, cells_compare.sp)]) (cds := cds) Try.func16 t16_ok t16_dr mixed (.cons c11 rfl (.cons c13 rfl (.cons c27 rfl (.nil)))) eqs_ok (fun a ha => (by kernel_rfl : _ = cells_Put.G iter a).trans (cells_Put.ok a ha))
theorem c18 : SpecOk Try.prog 18 (cells_Diff.sp 31) :=
  specOk_of (g := t18) (fns := [(11, cells_Valid.sp), (27, cells_compare.sp)]) (cds := cds) Try.func18 t18_ok t18_dr mixed (.cons c11 rfl (.cons c27 rfl (.nil))) eqs_ok (fun a ha => (by kernel_rfl : _ = cells_Diff.G iter a).trans (cells_Diff.ok a ha))
theorem c20 : SpecOk Try.prog 20 (cells_Get.sp) :=
  specOk_of (g := t20) (fns := []) (cds := cds) Try.func20 t20_ok t20_dr mixed (.nil) eqs_ok (fun a ha => (by kernel_rfl : _ = cells_Get.G iter a).trans (cells_Get.ok a ha))
theorem c25 : SpecOk Try.prog 25 (law12_one.sp 31) :=
  specOk_of (g := t25) (fns := []) (cds := cds) Try.func25 t25_ok t25_dr mixed (.nil) eqs_ok (fun a ha => (by kernel_rfl : _ = law12_one.G iter a).trans (law12_one.ok a ha))
theorem c10 : SpecOk Try.prog 10 (law12_awake.sp) :=
  specOk_of (g := t10) (fns := [(11, cells_Valid.sp), (16, cells_Put.sp 31), (18, cells_Diff.sp 31), (20, cells_Get.sp), (25, law12_one.sp 31)]) (cds := cds) Try.func10 t10_ok t10_dr mixed (.cons c11 rfl (.cons c16 rfl (.cons c18 rfl (.cons c20 rfl (.cons c25 rfl (.nil)))))) eqs_ok (fun a ha => (by kernel_rfl : _ = law12_awake.G iter a).trans (law12_awake.ok a ha))
theorem c28 : SpecOk Try.prog 28 (ref10_Valid.sp) :=
  specOk_of (g := t28) (fns := []) (cds := cds) Try.func28 t28_ok t28_dr mixed (.nil) eqs_ok (fun a ha => (by kernel_rfl : _ = ref10_Valid.G iter a).trans (ref10_Valid.ok a ha))
theorem c29 : SpecOk Try.prog 29 (ref12_Ahead.sp) :=
  specOk_of (g := t29) (fns := []) (cds := cds) Try.func29 t29_ok t29_dr mixed (.nil) eqs_ok (fun a ha => (by kernel_rfl : _ = ref12_Ahead.G iter a).trans (ref12_Ahead.ok a ha))
theorem c14 : SpecOk Try.prog 14 (ref12_Writes.sp) :=
  specOk_of (g := t14) (fns := [(28, ref10_Valid.sp), (29, ref12_Ahead.sp)]) (cds := cds) Try.func14 t14_ok t14_dr mixed (.cons c28 rfl (.cons c29 rfl (.nil))) eqs_ok (fun a ha => (by kernel_rfl : _ = ref12_Writes.G iter a).trans (ref12_Writes.ok a ha))
theorem c12 : SpecOk Try.prog 12 (ref12_Valid.sp) :=
  specOk_of (g := t12) (fns := [(14, ref12_Writes.sp)]) (cds := cds) Try.func12 t12_ok t12_dr mixed (.cons c14 rfl (.nil)) eqs_ok (fun a ha => (by kernel_rfl : _ = ref12_Valid.G iter a).trans (ref12_Valid.ok a ha))
theorem c15 : SpecOk Try.prog 15 (ref12_Same.sp) :=
  specOk_of (g := t15) (fns := []) (cds := cds) Try.func15 t15_ok t15_dr mixed (.nil) eqs_ok (fun a ha => (by kernel_rfl : _ = ref12_Same.G iter a).trans (ref12_Same.ok a ha))
theorem c30 : SpecOk Try.prog 30 (ref12_Solid.sp 31) :=
  specOk_of (g := t30) (fns := []) (cds := cds) Try.func30 t30_ok t30_dr mixed (.nil) eqs_ok (fun a ha => (by kernel_rfl : _ = ref12_Solid.G iter a).trans (ref12_Solid.ok a ha))
theorem c21 : SpecOk Try.prog 21 (ref12_Register.sp) :=
  specOk_of (g := t21) (fns := []) (cds := cds) Try.func21 t21_ok t21_dr mixed (.nil) eqs_ok (fun a ha => (by kernel_rfl : _ = ref12_Register.G iter a).trans (ref12_Register.ok a ha))
theorem c31 : SpecOk Try.prog 31 (ref12_Over.sp 31) :=
  specOk_of (g := t31) (fns := [(21, ref12_Register.sp), (29, ref12_Ahead.sp)]) (cds := cds) Try.func31 t31_ok t31_dr mixed (.cons c21 rfl (.cons c29 rfl (.nil))) eqs_ok (fun a ha => (by kernel_rfl : _ = ref12_Over.G iter a).trans (ref12_Over.ok a ha))
theorem c17 : SpecOk Try.prog 17 (ref12_Put.sp 31) :=
  specOk_of (g := t17) (fns := [(12, ref12_Valid.sp), (14, ref12_Writes.sp), (30, ref12_Solid.sp 31), (31, ref12_Over.sp 31)]) (cds := cds) Try.func17 t17_ok t17_dr mixed (.cons c12 rfl (.cons c14 rfl (.cons c30 rfl (.cons c31 rfl (.nil))))) eqs_ok (fun a ha => (by kernel_rfl : _ = ref12_Put.G iter a).trans (ref12_Put.ok a ha))
theorem c22 : SpecOk Try.prog 22 (ref12_Get.sp) :=
  specOk_of (g := t22) (fns := []) (cds := cds) Try.func22 t22_ok t22_dr mixed (.nil) eqs_ok (fun a ha => (by kernel_rfl : _ = ref12_Get.G iter a).trans (ref12_Get.ok a ha))
theorem c19 : SpecOk Try.prog 19 (ref12_Diff.sp 31) :=
  specOk_of (g := t19) (fns := [(12, ref12_Valid.sp), (22, ref12_Get.sp), (31, ref12_Over.sp 31)]) (cds := cds) Try.func19 t19_ok t19_dr mixed (.cons c12 rfl (.cons c22 rfl (.cons c31 rfl (.nil)))) eqs_ok (fun a ha => (by kernel_rfl : _ = ref12_Diff.G iter a).trans (ref12_Diff.ok a ha))
theorem c4 : SpecOk Try.prog 4 (law12_CellsPuts.sp) :=
  specOk_of (g := t4) (fns := [(9, law12_light.sp), (10, law12_awake.sp), (15, ref12_Same.sp), (16, cells_Put.sp 31), (17, ref12_Put.sp 31), (18, cells_Diff.sp 31), (19, ref12_Diff.sp 31)]) (cds := cds) Try.func4 t4_ok t4_dr mixed (.cons c9 rfl (.cons c10 rfl (.cons c15 rfl (.cons c16 rfl (.cons c17 rfl (.cons c18 rfl (.cons c19 rfl (.nil)))))))) eqs_ok (fun a ha => (by kernel_rfl : _ = law12_CellsPuts.G iter a).trans (law12_CellsPuts.ok a ha))
theorem c6 : SpecOk Try.prog 6 (law12_CellsRegisters.sp) :=
  specOk_of (g := t6) (fns := [(9, law12_light.sp), (10, law12_awake.sp), (11, cells_Valid.sp), (13, cells_Writes.sp), (16, cells_Put.sp 31), (20, cells_Get.sp)]) (cds := cds) Try.func6 t6_ok t6_dr mixed (.cons c9 rfl (.cons c10 rfl (.cons c11 rfl (.cons c13 rfl (.cons c16 rfl (.cons c20 rfl (.nil))))))) eqs_ok (fun a ha => (by kernel_rfl : _ = law12_CellsRegisters.G iter a).trans (law12_CellsRegisters.ok a ha))
theorem c7 : SpecOk Try.prog 7 (law12_CellsApart.sp) :=
  specOk_of (g := t7) (fns := [(9, law12_light.sp), (10, law12_awake.sp), (11, cells_Valid.sp), (13, cells_Writes.sp), (15, ref12_Same.sp), (16, cells_Put.sp 31), (21, ref12_Register.sp)]) (cds := cds) Try.func7 t7_ok t7_dr mixed (.cons c9 rfl (.cons c10 rfl (.cons c11 rfl (.cons c13 rfl (.cons c15 rfl (.cons c16 rfl (.cons c21 rfl (.nil)))))))) eqs_ok (fun a ha => (by kernel_rfl : _ = law12_CellsApart.G iter a).trans (law12_CellsApart.ok a ha))
theorem c23 : SpecOk Try.prog 23 (cells_Of.sp 31) :=
  specOk_of (g := t23) (fns := []) (cds := cds) Try.func23 t23_ok t23_dr mixed (.nil) eqs_ok (fun a ha => (by kernel_rfl : _ = cells_Of.G iter a).trans (cells_Of.ok a ha))
theorem c24 : SpecOk Try.prog 24 (ref12_Of.sp 31) :=
  specOk_of (g := t24) (fns := []) (cds := cds) Try.func24 t24_ok t24_dr mixed (.nil) eqs_ok (fun a ha => (by kernel_rfl : _ = ref12_Of.G iter a).trans (ref12_Of.ok a ha))
end Go.Proofs.Ythbkdnojneffdaa
