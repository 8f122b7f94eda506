/- Cells: what the functions return. -/
import Derived.Test.YthbkdnojneffdaaCells1
namespace Go.Am

def big : Nat := 4611686018427387904
/-- How long lists may be where they are built. -/
def lim : Nat := 100000

def cmp_isNaN.sp : FSpec := ⟨[.int .i64], .one .b, fun _ => true, fun _ => false⟩
def cmp_Compare.sp : FSpec := ⟨[.int .i64, .int .i64], .one (.int .i64), fun _ => true, fun a => cmpI a.1 a.2.1⟩
def basedB (a : Int) : Bool := decide (1 ≤ a.fdiv 1048576) && decide (a.fdiv 1048576 ≤ 32)
def ident_based.sp : FSpec := ⟨[.int .i64], .one .b, fun _ => true, fun a => basedB a.1⟩
def ident_Valid.sp : FSpec := ⟨[.int .i64], .one .b, fun _ => true, fun a => idOk a.1⟩
def ref10_Valid.sp : FSpec := ⟨[.int .i64], .one .b, fun _ => true, fun a => idOk a.1⟩
def cells_compare.sp : FSpec := ⟨[.st .cell, .st .cell], .one (.int .i64), fun _ => true, fun a => cmpC a.1 a.2.1⟩
def ref12_Ahead.sp : FSpec := ⟨[.st .cell, .st .cell], .one .b, fun _ => true, fun a => lt a.1 a.2.1⟩
def ref12_Register.sp : FSpec := ⟨[.st .cell, .st .cell], .one .b, fun _ => true, fun a => regB a.1 a.2.1⟩
def cells_Writes.sp : FSpec := ⟨[.sl .cell], .one .b, fun a => decide (a.1.length < big), fun a => writesB a.1⟩
def ref12_Writes.sp : FSpec := ⟨[.sl .cell], .one .b, fun a => decide (a.1.length < big), fun a => writesB a.1⟩
def cells_Valid.sp : FSpec := ⟨[.sl .cell], .one .b, fun a => decide (a.1.length < big), fun a => validB a.1⟩
def ref12_Valid.sp : FSpec := ⟨[.sl .cell], .one .b, fun a => decide (a.1.length < big), fun a => validB a.1⟩
def ref12_Same.sp : FSpec := ⟨[.sl .cell, .sl .cell], .one .b, fun a => decide (a.1.length < big), fun a => sameB a.1 a.2.1⟩
def cells_Get.sp : FSpec := ⟨[.sl .cell, .int .i64, .int .i64], .one (.st .val), fun a => decide (a.1.length < big), fun a => getB a.2.1 a.2.2.1 a.1⟩
def ref12_Get.sp : FSpec := ⟨[.sl .cell, .int .i64, .int .i64], .one (.st .val), fun a => decide (a.1.length < big), fun a => getB a.2.1 a.2.2.1 a.1⟩
def cells_Of.sp (t : TypeId) : FSpec := ⟨[.sl .cell, .int .i64], .fresh t .cell, fun a => decide (a.1.length < lim), fun a => ofB a.2.1 a.1⟩
def ref12_Of.sp (t : TypeId) : FSpec := ⟨[.sl .cell, .int .i64], .fresh t .cell, fun a => decide (a.1.length < lim), fun a => ofB a.2.1 a.1⟩
def ref12_Solid.sp (t : TypeId) : FSpec := ⟨[.sl .cell], .fresh t .cell, fun a => decide (a.1.length < lim), fun a => strong a.1⟩
def ref12_Over.sp (t : TypeId) : FSpec := ⟨[.sl .cell, .sl .cell], .fresh t .cell, fun a => decide (a.1.length + a.2.1.length < lim), fun a => over a.1 a.2.1⟩
def cells_Put.sp (t : TypeId) : FSpec := ⟨[.sl .cell, .sl .cell], .fresh t .cell, fun a => decide (a.1.length + a.2.1.length < lim), fun a => putB a.1 a.2.1⟩
def ref12_Put.sp (t : TypeId) : FSpec := ⟨[.sl .cell, .sl .cell], .fresh t .cell, fun a => decide (a.1.length + a.2.1.length < lim), fun a => putB a.1 a.2.1⟩
def cells_Diff.sp (t : TypeId) : FSpec := ⟨[.sl .cell, .sl .cell], .fresh t .cell, fun a => decide (a.1.length + a.2.1.length < lim), fun a => diffB a.1 a.2.1⟩
def ref12_Diff.sp (t : TypeId) : FSpec := ⟨[.sl .cell, .sl .cell], .fresh t .cell, fun a => decide (a.1.length + a.2.1.length < lim), fun a => diffB a.1 a.2.1⟩
def law12_one.sp (t : TypeId) : FSpec := ⟨[.int .i64, .st .val], .fresh t .cell, fun _ => true, fun a => [⟨1048577, a.1, a.2.1⟩]⟩
def law12_light.sp : FSpec := ⟨[.sl .cell, .sl .cell], .one .b, fun _ => true, fun a => decide (a.1.length ≤ 200) && decide (a.2.1.length ≤ 200)⟩
def law12_awake.sp : FSpec := ⟨[], .one .b, fun _ => true, fun _ => true⟩
def law12_CellsValid.sp : FSpec := ⟨[.sl .cell], .one .b, fun _ => true, fun _ => true⟩
def law12_CellsReads.sp : FSpec := ⟨[.sl .cell, .int .i64, .int .i64], .one .b, fun _ => true, fun _ => true⟩
def law12_CellsPuts.sp : FSpec := ⟨[.sl .cell, .sl .cell], .one .b, fun _ => true, fun _ => true⟩
def law12_CellsBack.sp : FSpec := ⟨[.sl .cell, .sl .cell], .one .b, fun _ => true, fun _ => true⟩
def law12_CellsRegisters.sp : FSpec := ⟨[.sl .cell, .sl .cell, .int .i64, .int .i64], .one .b, fun _ => true, fun _ => true⟩
def law12_CellsApart.sp : FSpec := ⟨[.sl .cell, .sl .cell, .sl .cell], .one .b, fun _ => true, fun _ => true⟩

end Go.Am
