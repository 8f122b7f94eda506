/- Cells: the functions, as they are computed. -/
import Derived.Test.YthbkdnojneffdaaSp12
import Derived.Test.YthbkdnojneffdaaTm16
namespace Go.Am
set_option linter.unusedVariables false

noncomputable def cmp_isNaN.F (it : It) (x0 : Int) : Option Bool :=
    some (x0 != x0)
noncomputable def cmp_isNaN.G (it : It) (a : Int × Unit) : Option Bool := cmp_isNaN.F it a.1
noncomputable def cmp_Compare.F (it : It) (x0 : Int) (x1 : Int) : Option Int :=
    bif decide (x0 < x1) then some (-1 : Int) else bif decide (x1 < x0) then some (1 : Int) else some (0 : Int)
noncomputable def cmp_Compare.G (it : It) (a : Int × Int × Unit) : Option Int := cmp_Compare.F it a.1 a.2.1
noncomputable def ident_based.F (it : It) (x0 : Int) : Option Bool :=
    bif decide ((1 : Int) ≤ x0.fdiv (1048576 : Int)) then some (decide (x0.fdiv (1048576 : Int) ≤ (32 : Int))) else some false
noncomputable def ident_based.G (it : It) (a : Int × Unit) : Option Bool := ident_based.F it a.1
noncomputable def ident_Valid.F (it : It) (x0 : Int) : Option Bool :=
    bif basedB x0 then some (IntKind.i64.wrap (↑(BitVec.ofInt (64 : Nat) x0 &&& BitVec.ofInt (64 : Nat) (1048575 : Int)).toNat : Int) != (0 : Int)) else some false
noncomputable def ident_Valid.G (it : It) (a : Int × Unit) : Option Bool := ident_Valid.F it a.1
noncomputable def ref10_Valid.F (it : It) (x0 : Int) : Option Bool :=
    bif decide ((1048576 : Int) < x0) then bif decide (x0 < (34603008 : Int)) then some (x0.tmod (1048576 : Int) != (0 : Int)) else some false else some false
noncomputable def ref10_Valid.G (it : It) (a : Int × Unit) : Option Bool := ref10_Valid.F it a.1
noncomputable def cells_compare.F (it : It) (x0 : Cel) (x1 : Cel) : Option Int :=
    bif cmpI x0.id x1.id != (0 : Int) then some (cmpI x0.id x1.id) else some (cmpI x0.field x1.field)
noncomputable def cells_compare.G (it : It) (a : Cel × Cel × Unit) : Option Int := cells_compare.F it a.1 a.2.1
noncomputable def ref12_Ahead.F (it : It) (x0 : Cel) (x1 : Cel) : Option Bool :=
    bif x0.id != x1.id then some (decide (x0.id < x1.id)) else some (decide (x0.field < x1.field))
noncomputable def ref12_Ahead.G (it : It) (a : Cel × Cel × Unit) : Option Bool := ref12_Ahead.F it a.1 a.2.1
noncomputable def ref12_Register.F (it : It) (x0 : Cel) (x1 : Cel) : Option Bool :=
    bif x0.id == x1.id then some (x0.field == x1.field) else some false
noncomputable def ref12_Register.G (it : It) (a : Cel × Cel × Unit) : Option Bool := ref12_Register.F it a.1 a.2.1
def cells_Writes.B0 (it : It) (x0 : List Cel) (x1 : List Cel) (x2 : Int) (x3 : Int) : Stp ((List Cel × List Cel × Int × Int × Unit) × Unit) (LO (Unit × Unit) Bool) :=
    bif decide (x3 < x2) then
    opt? (getI x1 x3) Stp.fail fun e =>
      bif !idOk e.id then Stp.done (LO.ret false)
      else
        bif decide (e.field < (1 : Int)) then Stp.done (LO.ret false)
        else
          bif decide ((48 : Int) ≤ e.field) then Stp.done (LO.ret false)
          else
            bif decide ((0 : Int) < x3) then
              opt? (getI x0 (IntKind.i64.wrap (x3 - (1 : Int)))) Stp.fail fun e_1 =>
                bif decide ((0 : Int) ≤ cmpC e_1 e) then Stp.done (LO.ret false) else Stp.next ((x0, x1, x2, IntKind.i64.wrap (x3 + (1 : Int)), ()), ())
            else Stp.next ((x0, x1, x2, IntKind.i64.wrap (x3 + (1 : Int)), ()), ())
  else Stp.done (LO.exit (0 : Nat) ((), ()))
noncomputable def cells_Writes.F (it : It) (x0 : List Cel) : Option Bool :=
    opt? (it (fun t => cells_Writes.B0 it t.1.1 t.1.2.1 t.1.2.2.1 t.1.2.2.2.1) ((x0, x0, (↑x0.length : Int), (0 : Int), ()), ())) none fun o =>
    match o with
    | LO.exit j u => bif j.beq (0 : Nat) then some true else none
    | LO.ret v => some v
noncomputable def cells_Writes.G (it : It) (a : List Cel × Unit) : Option Bool := cells_Writes.F it a.1
def ref12_Writes.B0 (it : It) (x0 : List Cel) (x1 : Int) : Stp ((List Cel × Int × Unit) × Unit) (LO (Unit × Unit) Bool) :=
    bif decide (x1 < (↑x0.length : Int)) then
    opt? (getI x0 x1) Stp.fail fun e =>
      bif !idOk e.id then Stp.done (LO.ret false)
      else
        opt? (getI x0 x1) Stp.fail fun e =>
          bif decide (e.field < (1 : Int)) then Stp.done (LO.ret false)
          else
            opt? (getI x0 x1) Stp.fail fun e =>
              bif decide ((48 : Int) ≤ e.field) then Stp.done (LO.ret false)
              else
                bif decide ((0 : Int) < x1) then
                  opt? (getI x0 (IntKind.i64.wrap (x1 - (1 : Int)))) Stp.fail fun e =>
                    opt? (getI x0 x1) Stp.fail fun e_1 =>
                      bif !lt e e_1 then Stp.done (LO.ret false) else Stp.next ((x0, IntKind.i64.wrap (x1 + (1 : Int)), ()), ())
                else Stp.next ((x0, IntKind.i64.wrap (x1 + (1 : Int)), ()), ())
  else Stp.done (LO.exit (0 : Nat) ((), ()))
noncomputable def ref12_Writes.F (it : It) (x0 : List Cel) : Option Bool :=
    opt? (it (fun t => ref12_Writes.B0 it t.1.1 t.1.2.1) ((x0, (0 : Int), ()), ())) none fun o =>
    match o with
    | LO.exit j u => bif j.beq (0 : Nat) then some true else none
    | LO.ret v => some v
noncomputable def ref12_Writes.G (it : It) (a : List Cel × Unit) : Option Bool := ref12_Writes.F it a.1
def cells_Valid.B0 (it : It) (x0 : List
    Cel) (x1 : List Cel) (x2 : Int) (x3 : Int) : Stp ((List Cel × List Cel × Int × Int × Unit) × Unit) (LO ((List Cel × Unit) × Unit) Bool) :=
    bif decide (x3 < x2) then
    opt? (getI x1 x3) Stp.fail fun e =>
      bif e.v.n == (0 : Int) && (e.v.flag == false && (e.v.text == ByteArray.mk #[] && (e.v.ref == (0 : Int) && true))) then Stp.done (LO.ret false)
      else Stp.next ((x0, x1, x2, IntKind.i64.wrap (x3 + (1 : Int)), ()), ())
  else Stp.done (LO.exit (0 : Nat) ((x0, ()), ()))
noncomputable def cells_Valid.F (it : It) (x0 : List Cel) : Option Bool :=
    opt? (it (fun t => cells_Valid.B0 it t.1.1 t.1.2.1 t.1.2.2.1 t.1.2.2.2.1) ((x0, x0, (↑x0.length : Int), (0 : Int), ()), ())) none fun o =>
    match o with
    | LO.exit j u => bif j.beq (0 : Nat) then bif decide (u.fst.fst.length < (4611686018427387904 : Nat)) then some (writesB u.fst.fst) else none else none
    | LO.ret v => some v
noncomputable def cells_Valid.G (it : It) (a : List Cel × Unit) : Option Bool := cells_Valid.F it a.1
def ref12_Valid.B0 (it : It) (x0 : List Cel) (x1 : Int) : Stp ((List Cel × Int × Unit) × Unit) (LO ((List Cel × Unit) × Unit) Bool) :=
    bif decide (x1 < (↑x0.length : Int)) then
    opt? (getI x0 x1) Stp.fail fun e =>
      bif e.v.n == (0 : Int) && (e.v.flag == false && (e.v.text == ByteArray.mk #[] && (e.v.ref == (0 : Int) && true))) then Stp.done (LO.ret false)
      else Stp.next ((x0, IntKind.i64.wrap (x1 + (1 : Int)), ()), ())
  else Stp.done (LO.exit (0 : Nat) ((x0, ()), ()))
noncomputable def ref12_Valid.F (it : It) (x0 : List Cel) : Option Bool :=
    opt? (it (fun t => ref12_Valid.B0 it t.1.1 t.1.2.1) ((x0, (0 : Int), ()), ())) none fun o =>
    match o with
    | LO.exit j u => bif j.beq (0 : Nat) then bif decide (u.fst.fst.length < (4611686018427387904 : Nat)) then some (writesB u.fst.fst) else none else none
    | LO.ret v => some v
noncomputable def ref12_Valid.G (it : It) (a : List Cel × Unit) : Option Bool := ref12_Valid.F it a.1
def ref12_Same.B0 (it : It) (x0 : List Cel) (x1 : List Cel) (x2 : Int) : Stp ((List Cel × List Cel × Int × Unit) × Unit) (LO (Unit × Unit) Bool) :=
    bif decide (x2 < (↑x0.length : Int)) then
    opt? (getI x0 x2) Stp.fail fun e =>
      opt? (getI x1 x2) Stp.fail fun e_1 =>
        bif !(e.id == e_1.id && (e.field == e_1.field && (e.v.n == e_1.v.n && (e.v.flag == e_1.v.flag && (e.v.text == e_1.v.text && (e.v.ref == e_1.v.ref && true)))))) then Stp.done (LO.ret false)
        else Stp.next ((x0, x1, IntKind.i64.wrap (x2 + (1 : Int)), ()), ())
  else Stp.done (LO.exit (0 : Nat) ((), ()))
noncomputable def ref12_Same.F (it : It) (x0 : List Cel) (x1 : List Cel) : Option Bool :=
    bif (↑x0.length : Int) != (↑x1.length : Int) then some false
  else
    opt? (it (fun t => ref12_Same.B0 it t.1.1 t.1.2.1 t.1.2.2.1) ((x0, x1, (0 : Int), ()), ())) none fun o =>
      match o with
      | LO.exit j u => bif j.beq (0 : Nat) then some true else none
      | LO.ret v => some v
noncomputable def ref12_Same.G (it : It) (a : List Cel × List Cel × Unit) : Option Bool := ref12_Same.F it a.1 a.2.1
def cells_Get.B0 (it : It) (x0 : Int) (x1 : Int) (x2 : List
    Cel) (x3 : Int) (x4 : Int) (x5 : Int) (x6 : Bool) (x7 : ByteArray) (x8 : Int) : Stp ((Int × Int × List Cel × Int × Int × Unit) × (Int × Bool × ByteArray × Int × Unit) × Unit)
    (LO (Unit × (Int × Bool × ByteArray × Int × Unit) × Unit) Val) :=
    bif decide (x4 < x3) then
    opt? (getI x2 x4) Stp.fail fun e =>
      bif e.id == x0 then bif e.field == x1 then Stp.done (LO.ret e.v) else Stp.next ((x0, x1, x2, x3, IntKind.i64.wrap (x4 + (1 : Int)), ()), (x5, x6, x7, x8, ()), ())
      else Stp.next ((x0, x1, x2, x3, IntKind.i64.wrap (x4 + (1 : Int)), ()), (x5, x6, x7, x8, ()), ())
  else Stp.done (LO.exit (0 : Nat) ((), (x5, x6, x7, x8, ()), ()))
noncomputable def cells_Get.F (it : It) (x0 : List Cel) (x1 : Int) (x2 : Int) : Option Val :=
    opt? (it (fun t => cells_Get.B0 it t.1.1 t.1.2.1 t.1.2.2.1 t.1.2.2.2.1 t.1.2.2.2.2.1 t.2.1.1 t.2.1.2.1 t.2.1.2.2.1 t.2.1.2.2.2.1) ((x1, x2, x0, (↑x0.length : Int), (0 : Int), ()), ((0 : Int), false, ByteArray.mk #[], (0 : Int), ()), ())) none fun o =>
    match o with
    | LO.exit j u => bif j.beq (0 : Nat) then some (Val.mk (0 : Int) false (ByteArray.mk #[]) (0 : Int)) else none
    | LO.ret v => some v
noncomputable def cells_Get.G (it : It) (a : List Cel × Int × Int × Unit) : Option Val := cells_Get.F it a.1 a.2.1 a.2.2.1
def ref12_Get.B0 (it : It) (x0 : List
    Cel) (x1 : Int) (x2 : Int) (x3 : Int) (x4 : Int) (x5 : Bool) (x6 : ByteArray) (x7 : Int) : Stp ((List Cel × Int × Int × Int × Unit) × (Int × Bool × ByteArray × Int × Unit) × Unit)
    (LO (Unit × (Int × Bool × ByteArray × Int × Unit) × Unit) Val) :=
    bif decide (x3 < (↑x0.length : Int)) then
    opt? (getI x0 x3) Stp.fail fun e =>
      bif e.id == x1 then
        opt? (getI x0 x3) Stp.fail fun e =>
          bif e.field == x2 then opt? (getI x0 x3) Stp.fail fun e => Stp.done (LO.ret e.v)
          else Stp.next ((x0, x1, x2, IntKind.i64.wrap (x3 + (1 : Int)), ()), (x4, x5, x6, x7, ()), ())
      else Stp.next ((x0, x1, x2, IntKind.i64.wrap (x3 + (1 : Int)), ()), (x4, x5, x6, x7, ()), ())
  else Stp.done (LO.exit (0 : Nat) ((), (x4, x5, x6, x7, ()), ()))
noncomputable def ref12_Get.F (it : It) (x0 : List Cel) (x1 : Int) (x2 : Int) : Option Val :=
    opt? (it (fun t => ref12_Get.B0 it t.1.1 t.1.2.1 t.1.2.2.1 t.1.2.2.2.1 t.2.1.1 t.2.1.2.1 t.2.1.2.2.1 t.2.1.2.2.2.1) ((x0, x1, x2, (0 : Int), ()), ((0 : Int), false, ByteArray.mk #[], (0 : Int), ()), ())) none fun o =>
    match o with
    | LO.exit j u => bif j.beq (0 : Nat) then some (Val.mk (0 : Int) false (ByteArray.mk #[]) (0 : Int)) else none
    | LO.ret v => some v
noncomputable def ref12_Get.G (it : It) (a : List Cel × Int × Int × Unit) : Option Val := ref12_Get.F it a.1 a.2.1 a.2.2.1
def cells_Of.B0 (it : It) (x0 : Int) (x1 : List
    Cel) (x2 : Int) (x3 : Int) (x4 : List Cel) : Stp ((Int × List Cel × Int × Int × Unit) × List Cel × Unit) (LO (Unit × List Cel × Unit) (List Cel)) :=
    bif decide (x3 < x2) then
    opt? (getI x1 x3) Stp.fail fun e =>
      bif e.id == x0 then
        bif decide ((x4.length + [e].length) * (56 : Nat) ≤ (16777216 : Nat)) then Stp.next ((x0, x1, x2, IntKind.i64.wrap (x3 + (1 : Int)), ()), x4 ++ [e], ()) else Stp.fail
      else Stp.next ((x0, x1, x2, IntKind.i64.wrap (x3 + (1 : Int)), ()), x4, ())
  else Stp.done (LO.exit (0 : Nat) ((), x4, ()))
noncomputable def cells_Of.F (it : It) (x0 : List Cel) (x1 : Int) : Option (List Cel) :=
    opt? (it (fun t => cells_Of.B0 it t.1.1 t.1.2.1 t.1.2.2.1 t.1.2.2.2.1 t.2.1) ((x1, x0, (↑x0.length : Int), (0 : Int), ()), [], ())) none fun o =>
    match o with
    | LO.exit j u => bif j.beq (0 : Nat) then some u.snd.fst else none
    | LO.ret v => some v
noncomputable def cells_Of.G (it : It) (a : List Cel × Int × Unit) : Option (List Cel) := cells_Of.F it a.1 a.2.1
def ref12_Of.B0 (it : It) (x0 : List
    Cel) (x1 : Int) (x2 : Int) (x3 : List Cel) : Stp ((List Cel × Int × Int × Unit) × List Cel × Unit) (LO (Unit × List Cel × Unit) (List Cel)) :=
    bif decide (x2 < (↑x0.length : Int)) then
    opt? (getI x0 x2) Stp.fail fun e =>
      bif e.id == x1 then
        opt? (getI x0 x2) Stp.fail fun e =>
          bif decide ((x3.length + [e].length) * (56 : Nat) ≤ (16777216 : Nat)) then Stp.next ((x0, x1, IntKind.i64.wrap (x2 + (1 : Int)), ()), x3 ++ [e], ()) else Stp.fail
      else Stp.next ((x0, x1, IntKind.i64.wrap (x2 + (1 : Int)), ()), x3, ())
  else Stp.done (LO.exit (0 : Nat) ((), x3, ()))
noncomputable def ref12_Of.F (it : It) (x0 : List Cel) (x1 : Int) : Option (List Cel) :=
    opt? (it (fun t => ref12_Of.B0 it t.1.1 t.1.2.1 t.1.2.2.1 t.2.1) ((x0, x1, (0 : Int), ()), [], ())) none fun o =>
    match o with
    | LO.exit j u => bif j.beq (0 : Nat) then some u.snd.fst else none
    | LO.ret v => some v
noncomputable def ref12_Of.G (it : It) (a : List Cel × Int × Unit) : Option (List Cel) := ref12_Of.F it a.1 a.2.1
def ref12_Solid.B0 (it : It) (x0 : List Cel) (x1 : Int) (x2 : List Cel) : Stp ((List Cel × Int × Unit) × List Cel × Unit) (LO (Unit × List Cel × Unit) (List Cel)) :=
    bif decide (x1 < (↑x0.length : Int)) then
    opt? (getI x0 x1) Stp.fail fun e =>
      bif !(e.v.n == (0 : Int) && (e.v.flag == false && (e.v.text == ByteArray.mk #[] && (e.v.ref == (0 : Int) && true)))) then
        opt? (getI x0 x1) Stp.fail fun e =>
          bif decide ((x2.length + [e].length) * (56 : Nat) ≤ (16777216 : Nat)) then Stp.next ((x0, IntKind.i64.wrap (x1 + (1 : Int)), ()), x2 ++ [e], ()) else Stp.fail
      else Stp.next ((x0, IntKind.i64.wrap (x1 + (1 : Int)), ()), x2, ())
  else Stp.done (LO.exit (0 : Nat) ((), x2, ()))
noncomputable def ref12_Solid.F (it : It) (x0 : List Cel) : Option (List Cel) :=
    opt? (it (fun t => ref12_Solid.B0 it t.1.1 t.1.2.1 t.2.1) ((x0, (0 : Int), ()), [], ())) none fun o =>
    match o with
    | LO.exit j u => bif j.beq (0 : Nat) then some u.snd.fst else none
    | LO.ret v => some v
noncomputable def ref12_Solid.G (it : It) (a : List Cel × Unit) : Option (List Cel) := ref12_Solid.F it a.1
def ref12_Over.B0 (it : It) (x0 : List
    Cel) (x1 : List
    Cel) (x2 : Int) (x3 : Int) (x4 : List Cel) : Stp ((List Cel × List Cel × Int × Int × Unit) × List Cel × Unit) (LO (Unit × List Cel × Unit) (List Cel)) :=
    bif decide (x2 < (↑x0.length : Int)) then
    bif x3 == (↑x1.length : Int) then
      opt? (getI x0 x2) Stp.fail fun e =>
        bif decide ((x4.length + [e].length) * (56 : Nat) ≤ (16777216 : Nat)) then Stp.next ((x0, x1, IntKind.i64.wrap (x2 + (1 : Int)), x3, ()), x4 ++ [e], ()) else Stp.fail
    else
      bif decide (x2 < (↑x0.length : Int)) then
        opt? (getI x0 x2) Stp.fail fun e =>
          opt? (getI x1 x3) Stp.fail fun e_1 =>
            bif lt e e_1 then
              opt? (getI x0 x2) Stp.fail fun e =>
                bif decide ((x4.length + [e].length) * (56 : Nat) ≤ (16777216 : Nat)) then Stp.next ((x0, x1, IntKind.i64.wrap (x2 + (1 : Int)), x3, ()), x4 ++ [e], ()) else Stp.fail
            else
              bif decide (x2 < (↑x0.length : Int)) then
                opt? (getI x0 x2) Stp.fail fun e =>
                  opt? (getI x1 x3) Stp.fail fun e_2 =>
                    bif regB e e_2 then Stp.next ((x0, x1, IntKind.i64.wrap (x2 + (1 : Int)), x3, ()), x4, ())
                    else
                      opt? (getI x1 x3) Stp.fail fun e =>
                        bif decide ((x4.length + [e].length) * (56 : Nat) ≤ (16777216 : Nat)) then Stp.next ((x0, x1, x2, IntKind.i64.wrap (x3 + (1 : Int)), ()), x4 ++ [e], ()) else Stp.fail
              else
                opt? (getI x1 x3) Stp.fail fun e =>
                  bif decide ((x4.length + [e].length) * (56 : Nat) ≤ (16777216 : Nat)) then Stp.next ((x0, x1, x2, IntKind.i64.wrap (x3 + (1 : Int)), ()), x4 ++ [e], ()) else Stp.fail
      else
        bif decide (x2 < (↑x0.length : Int)) then
          opt? (getI x0 x2) Stp.fail fun e =>
            opt? (getI x1 x3) Stp.fail fun e_1 =>
              bif regB e e_1 then Stp.next ((x0, x1, IntKind.i64.wrap (x2 + (1 : Int)), x3, ()), x4, ())
              else
                opt? (getI x1 x3) Stp.fail fun e =>
                  bif decide ((x4.length + [e].length) * (56 : Nat) ≤ (16777216 : Nat)) then Stp.next ((x0, x1, x2, IntKind.i64.wrap (x3 + (1 : Int)), ()), x4 ++ [e], ()) else Stp.fail
        else
          opt? (getI x1 x3) Stp.fail fun e =>
            bif decide ((x4.length + [e].length) * (56 : Nat) ≤ (16777216 : Nat)) then Stp.next ((x0, x1, x2, IntKind.i64.wrap (x3 + (1 : Int)), ()), x4 ++ [e], ()) else Stp.fail
  else
    bif decide (x3 < (↑x1.length : Int)) then
      bif x3 == (↑x1.length : Int) then
        opt? (getI x0 x2) Stp.fail fun e =>
          bif decide ((x4.length + [e].length) * (56 : Nat) ≤ (16777216 : Nat)) then Stp.next ((x0, x1, IntKind.i64.wrap (x2 + (1 : Int)), x3, ()), x4 ++ [e], ()) else Stp.fail
      else
        bif decide (x2 < (↑x0.length : Int)) then
          opt? (getI x0 x2) Stp.fail fun e =>
            opt? (getI x1 x3) Stp.fail fun e_1 =>
              bif lt e e_1 then
                opt? (getI x0 x2) Stp.fail fun e =>
                  bif decide ((x4.length + [e].length) * (56 : Nat) ≤ (16777216 : Nat)) then Stp.next ((x0, x1, IntKind.i64.wrap (x2 + (1 : Int)), x3, ()), x4 ++ [e], ()) else Stp.fail
              else
                bif decide (x2 < (↑x0.length : Int)) then
                  opt? (getI x0 x2) Stp.fail fun e =>
                    opt? (getI x1 x3) Stp.fail fun e_2 =>
                      bif regB e e_2 then Stp.next ((x0, x1, IntKind.i64.wrap (x2 + (1 : Int)), x3, ()), x4, ())
                      else
                        opt? (getI x1 x3) Stp.fail fun e =>
                          bif decide ((x4.length + [e].length) * (56 : Nat) ≤ (16777216 : Nat)) then Stp.next ((x0, x1, x2, IntKind.i64.wrap (x3 + (1 : Int)), ()), x4 ++ [e], ())
                          else Stp.fail
                else
                  opt? (getI x1 x3) Stp.fail fun e =>
                    bif decide ((x4.length + [e].length) * (56 : Nat) ≤ (16777216 : Nat)) then Stp.next ((x0, x1, x2, IntKind.i64.wrap (x3 + (1 : Int)), ()), x4 ++ [e], ()) else Stp.fail
        else
          bif decide (x2 < (↑x0.length : Int)) then
            opt? (getI x0 x2) Stp.fail fun e =>
              opt? (getI x1 x3) Stp.fail fun e_1 =>
                bif regB e e_1 then Stp.next ((x0, x1, IntKind.i64.wrap (x2 + (1 : Int)), x3, ()), x4, ())
                else
                  opt? (getI x1 x3) Stp.fail fun e =>
                    bif decide ((x4.length + [e].length) * (56 : Nat) ≤ (16777216 : Nat)) then Stp.next ((x0, x1, x2, IntKind.i64.wrap (x3 + (1 : Int)), ()), x4 ++ [e], ()) else Stp.fail
          else
            opt? (getI x1 x3) Stp.fail fun e =>
              bif decide ((x4.length + [e].length) * (56 : Nat) ≤ (16777216 : Nat)) then Stp.next ((x0, x1, x2, IntKind.i64.wrap (x3 + (1 : Int)), ()), x4 ++ [e], ()) else Stp.fail
    else Stp.done (LO.exit (0 : Nat) ((), x4, ()))
noncomputable def ref12_Over.F (it : It) (x0 : List Cel) (x1 : List Cel) : Option (List Cel) :=
    opt? (it (fun t => ref12_Over.B0 it t.1.1 t.1.2.1 t.1.2.2.1 t.1.2.2.2.1 t.2.1) ((x0, x1, (0 : Int), (0 : Int), ()), [], ())) none fun o =>
    match o with
    | LO.exit j u => bif j.beq (0 : Nat) then some u.snd.fst else none
    | LO.ret v => some v
noncomputable def ref12_Over.G (it : It) (a : List Cel × List Cel × Unit) : Option (List Cel) := ref12_Over.F it a.1 a.2.1
def cells_Put.B1 (it : It) (x0 : List
    Cel) (x1 : List
    Cel) (x2 : Int) (x3 : Int) (x4 : List
    Cel) (x5 : Int) (x6 : Int) (x7 : Int) (x8 : Bool) (x9 : ByteArray) (x10 : Int) : Stp
    ((List Cel × List Cel × Int × Int × Unit) × List Cel × (Int × Int × Int × Bool × ByteArray × Int × Unit) × Unit)
    (LO ((List Cel × List Cel × Int × Int × Unit) × List Cel × (Int × Int × Int × Bool × ByteArray × Int × Unit) × Unit) (List Cel)) :=
    bif decide ((0 : Int) < (↑x0.length : Int)) then
    opt? (getI x0 (0 : Int)) Stp.fail fun e =>
      bif decide (cmpC e (Cel.mk x5 x6 (Val.mk x7 x8 x9 x10)) < (0 : Int)) then
        opt? (getI x0 (0 : Int)) Stp.fail fun e =>
          bif decide ((x4.length + [e].length) * (56 : Nat) ≤ (16777216 : Nat)) then
            bif decide ((1 : Int) ≤ (↑x0.length : Int)) then Stp.next ((List.drop (1 : Nat) x0, x1, x2, x3, ()), x4 ++ [e], (x5, x6, x7, x8, x9, x10, ()), ()) else Stp.fail
          else Stp.fail
      else Stp.done (LO.exit (2 : Nat) ((x0, x1, x2, x3, ()), x4, (x5, x6, x7, x8, x9, x10, ()), ()))
  else Stp.done (LO.exit (2 : Nat) ((x0, x1, x2, x3, ()), x4, (x5, x6, x7, x8, x9, x10, ()), ()))
def cells_Put.B0 (it : It) (x0 : List
    Cel) (x1 : List
    Cel) (x2 : Int) (x3 : Int) (x4 : List
    Cel) : Stp ((List Cel × List Cel × Int × Int × Unit) × List Cel × Unit) (LO ((List Cel × Unit) × List Cel × Unit) (List Cel)) :=
    bif decide (x3 < x2) then
    opt? (getI x1 x3) Stp.fail fun e =>
      opt? (it (fun t => cells_Put.B1 it t.1.1 t.1.2.1 t.1.2.2.1 t.1.2.2.2.1 t.2.1 t.2.2.1.1 t.2.2.1.2.1 t.2.2.1.2.2.1 t.2.2.1.2.2.2.1 t.2.2.1.2.2.2.2.1 t.2.2.1.2.2.2.2.2.1) ((x0, x1, x2, x3, ()), x4, (e.id, e.field, e.v.n, e.v.flag, e.v.text, e.v.ref, ()), ())) Stp.fail fun o =>
        match o with
        | LO.exit j u =>
          bif j.beq (2 : Nat) then
            bif decide ((0 : Int) < (↑u.fst.fst.length : Int)) then
              opt? (getI u.fst.fst (0 : Int)) Stp.fail fun e =>
                bif
                    cmpC e
                        (Cel.mk u.snd.snd.fst.fst u.snd.snd.fst.snd.fst
                          (Val.mk u.snd.snd.fst.snd.snd.fst u.snd.snd.fst.snd.snd.snd.fst u.snd.snd.fst.snd.snd.snd.snd.fst u.snd.snd.fst.snd.snd.snd.snd.snd.fst)) ==
                      (0 : Int) then
                  bif decide ((1 : Int) ≤ (↑u.fst.fst.length : Int)) then
                    bif
                        !(u.snd.snd.fst.snd.snd.fst == (0 : Int) &&
                            (u.snd.snd.fst.snd.snd.snd.fst == false && (u.snd.snd.fst.snd.snd.snd.snd.fst == ByteArray.mk #[] && (u.snd.snd.fst.snd.snd.snd.snd.snd.fst == (0 : Int) && true)))) then
                      bif
                          decide
                            ((u.snd.fst.length +
                                  [Cel.mk u.snd.snd.fst.fst u.snd.snd.fst.snd.fst
                                        (Val.mk u.snd.snd.fst.snd.snd.fst u.snd.snd.fst.snd.snd.snd.fst u.snd.snd.fst.snd.snd.snd.snd.fst u.snd.snd.fst.snd.snd.snd.snd.snd.fst)].length) *
                                (56 : Nat) ≤
                              (16777216 : Nat)) then
                        Stp.next
                          ((List.drop (1 : Nat) u.fst.fst, u.fst.snd.fst, u.fst.snd.snd.fst, IntKind.i64.wrap (u.fst.snd.snd.snd.fst + (1 : Int)), ()),
                            u.snd.fst ++
                              [Cel.mk u.snd.snd.fst.fst u.snd.snd.fst.snd.fst
                                  (Val.mk u.snd.snd.fst.snd.snd.fst u.snd.snd.fst.snd.snd.snd.fst u.snd.snd.fst.snd.snd.snd.snd.fst u.snd.snd.fst.snd.snd.snd.snd.snd.fst)],
                            ())
                      else Stp.fail
                    else Stp.next ((List.drop (1 : Nat) u.fst.fst, u.fst.snd.fst, u.fst.snd.snd.fst, IntKind.i64.wrap (u.fst.snd.snd.snd.fst + (1 : Int)), ()), u.snd.fst, ())
                  else Stp.fail
                else
                  bif
                      !(u.snd.snd.fst.snd.snd.fst == (0 : Int) &&
                          (u.snd.snd.fst.snd.snd.snd.fst == false && (u.snd.snd.fst.snd.snd.snd.snd.fst == ByteArray.mk #[] && (u.snd.snd.fst.snd.snd.snd.snd.snd.fst == (0 : Int) && true)))) then
                    bif
                        decide
                          ((u.snd.fst.length +
                                [Cel.mk u.snd.snd.fst.fst u.snd.snd.fst.snd.fst
                                      (Val.mk u.snd.snd.fst.snd.snd.fst u.snd.snd.fst.snd.snd.snd.fst u.snd.snd.fst.snd.snd.snd.snd.fst u.snd.snd.fst.snd.snd.snd.snd.snd.fst)].length) *
                              (56 : Nat) ≤
                            (16777216 : Nat)) then
                      Stp.next
                        ((u.fst.fst, u.fst.snd.fst, u.fst.snd.snd.fst, IntKind.i64.wrap (u.fst.snd.snd.snd.fst + (1 : Int)), ()),
                          u.snd.fst ++
                            [Cel.mk u.snd.snd.fst.fst u.snd.snd.fst.snd.fst
                                (Val.mk u.snd.snd.fst.snd.snd.fst u.snd.snd.fst.snd.snd.snd.fst u.snd.snd.fst.snd.snd.snd.snd.fst u.snd.snd.fst.snd.snd.snd.snd.snd.fst)],
                          ())
                    else Stp.fail
                  else Stp.next ((u.fst.fst, u.fst.snd.fst, u.fst.snd.snd.fst, IntKind.i64.wrap (u.fst.snd.snd.snd.fst + (1 : Int)), ()), u.snd.fst, ())
            else
              bif
                  !(u.snd.snd.fst.snd.snd.fst == (0 : Int) &&
                      (u.snd.snd.fst.snd.snd.snd.fst == false && (u.snd.snd.fst.snd.snd.snd.snd.fst == ByteArray.mk #[] && (u.snd.snd.fst.snd.snd.snd.snd.snd.fst == (0 : Int) && true)))) then
                bif
                    decide
                      ((u.snd.fst.length +
                            [Cel.mk u.snd.snd.fst.fst u.snd.snd.fst.snd.fst
                                  (Val.mk u.snd.snd.fst.snd.snd.fst u.snd.snd.fst.snd.snd.snd.fst u.snd.snd.fst.snd.snd.snd.snd.fst u.snd.snd.fst.snd.snd.snd.snd.snd.fst)].length) *
                          (56 : Nat) ≤
                        (16777216 : Nat)) then
                  Stp.next
                    ((u.fst.fst, u.fst.snd.fst, u.fst.snd.snd.fst, IntKind.i64.wrap (u.fst.snd.snd.snd.fst + (1 : Int)), ()),
                      u.snd.fst ++
                        [Cel.mk u.snd.snd.fst.fst u.snd.snd.fst.snd.fst (Val.mk u.snd.snd.fst.snd.snd.fst u.snd.snd.fst.snd.snd.snd.fst u.snd.snd.fst.snd.snd.snd.snd.fst u.snd.snd.fst.snd.snd.snd.snd.snd.fst)],
                      ())
                else Stp.fail
              else Stp.next ((u.fst.fst, u.fst.snd.fst, u.fst.snd.snd.fst, IntKind.i64.wrap (u.fst.snd.snd.snd.fst + (1 : Int)), ()), u.snd.fst, ())
          else
            bif j.beq (1 : Nat) then Stp.next ((u.fst.fst, u.fst.snd.fst, u.fst.snd.snd.fst, IntKind.i64.wrap (u.fst.snd.snd.snd.fst + (1 : Int)), ()), u.snd.fst, ())
            else Stp.done (LO.exit j ((u.fst.fst, ()), u.snd.fst, ()))
        | LO.ret v => Stp.done (LO.ret v)
  else Stp.done (LO.exit (0 : Nat) ((x0, ()), x4, ()))
noncomputable def cells_Put.F (it : It) (x0 : List Cel) (x1 : List Cel) : Option (List Cel) :=
    bif decide (x0.length < (4611686018427387904 : Nat)) then
    bif !validB x0 then some []
    else
      bif decide (x1.length < (4611686018427387904 : Nat)) then
        bif !writesB x1 then some []
        else
          opt? (it (fun t => cells_Put.B0 it t.1.1 t.1.2.1 t.1.2.2.1 t.1.2.2.2.1 t.2.1) ((x0, x1, (↑x1.length : Int), (0 : Int), ()), [], ())) none fun o =>
            match o with
            | LO.exit j u =>
              bif j.beq (0 : Nat) then
                match u.fst.fst with
                | [] => some u.snd.fst
                | a :: r => bif decide ((u.snd.fst.length + (a :: r).length) * (56 : Nat) ≤ (16777216 : Nat)) then some (u.snd.fst ++ a :: r) else none
              else none
            | LO.ret v => some v
      else none
  else none
noncomputable def cells_Put.G (it : It) (a : List Cel × List Cel × Unit) : Option (List Cel) := cells_Put.F it a.1 a.2.1
noncomputable def ref12_Put.F (it : It) (x0 : List Cel) (x1 : List Cel) : Option (List Cel) :=
    bif decide (x0.length < (4611686018427387904 : Nat)) then
    bif !validB x0 then some []
    else
      bif decide (x1.length < (4611686018427387904 : Nat)) then
        bif !writesB x1 then some []
        else bif decide (x0.length + x1.length < (100000 : Nat)) then bif decide ((over x0 x1).length < (100000 : Nat)) then some (strong (over x0 x1)) else none else none
      else none
  else none
noncomputable def ref12_Put.G (it : It) (a : List Cel × List Cel × Unit) : Option (List Cel) := ref12_Put.F it a.1 a.2.1
def cells_Diff.B0 (it : It) (x0 : List
    Cel) (x1 : List Cel) (x2 : List Cel) : Stp ((List Cel × List Cel × Unit) × List Cel × Unit) (LO (Unit × List Cel × Unit) (List Cel)) :=
    bif decide ((0 : Int) < (↑x0.length : Int)) then
    bif (↑x1.length : Int) == (0 : Int) then
      opt? (getI x0 (0 : Int)) Stp.fail fun e =>
        opt? (getI x0 (0 : Int)) Stp.fail fun e_1 =>
          bif decide ((x2.length + [Cel.mk e.id e_1.field (Val.mk (0 : Int) false (ByteArray.mk #[]) (0 : Int))].length) * (56 : Nat) ≤ (16777216 : Nat)) then
            bif decide ((1 : Int) ≤ (↑x0.length : Int)) then
              Stp.next ((List.drop (1 : Nat) x0, x1, ()), x2 ++ [Cel.mk e.id e_1.field (Val.mk (0 : Int) false (ByteArray.mk #[]) (0 : Int))], ())
            else Stp.fail
          else Stp.fail
    else
      bif (↑x0.length : Int) == (0 : Int) then
        opt? (getI x1 (0 : Int)) Stp.fail fun e =>
          bif decide ((x2.length + [e].length) * (56 : Nat) ≤ (16777216 : Nat)) then
            bif decide ((1 : Int) ≤ (↑x1.length : Int)) then Stp.next ((x0, List.drop (1 : Nat) x1, ()), x2 ++ [e], ()) else Stp.fail
          else Stp.fail
      else
        opt? (getI x0 (0 : Int)) Stp.fail fun e =>
          opt? (getI x1 (0 : Int)) Stp.fail fun e_1 =>
            bif decide (cmpC e e_1 < (0 : Int)) then
              opt? (getI x0 (0 : Int)) Stp.fail fun e_2 =>
                opt? (getI x0 (0 : Int)) Stp.fail fun e_3 =>
                  bif decide ((x2.length + [Cel.mk e_2.id e_3.field (Val.mk (0 : Int) false (ByteArray.mk #[]) (0 : Int))].length) * (56 : Nat) ≤ (16777216 : Nat)) then
                    bif decide (cmpC e e_1 ≤ (0 : Int)) then
                      bif decide ((1 : Int) ≤ (↑x0.length : Int)) then
                        bif decide ((0 : Int) ≤ cmpC e e_1) then
                          bif decide ((1 : Int) ≤ (↑x1.length : Int)) then
                            Stp.next ((List.drop (1 : Nat) x0, List.drop (1 : Nat) x1, ()), x2 ++ [Cel.mk e_2.id e_3.field (Val.mk (0 : Int) false (ByteArray.mk #[]) (0 : Int))], ())
                          else Stp.fail
                        else Stp.next ((List.drop (1 : Nat) x0, x1, ()), x2 ++ [Cel.mk e_2.id e_3.field (Val.mk (0 : Int) false (ByteArray.mk #[]) (0 : Int))], ())
                      else Stp.fail
                    else
                      bif decide ((0 : Int) ≤ cmpC e e_1) then
                        bif decide ((1 : Int) ≤ (↑x1.length : Int)) then
                          Stp.next ((x0, List.drop (1 : Nat) x1, ()), x2 ++ [Cel.mk e_2.id e_3.field (Val.mk (0 : Int) false (ByteArray.mk #[]) (0 : Int))], ())
                        else Stp.fail
                      else Stp.next ((x0, x1, ()), x2 ++ [Cel.mk e_2.id e_3.field (Val.mk (0 : Int) false (ByteArray.mk #[]) (0 : Int))], ())
                  else Stp.fail
            else
              bif decide ((0 : Int) < cmpC e e_1) then
                opt? (getI x1 (0 : Int)) Stp.fail fun e_2 =>
                  bif decide ((x2.length + [e_2].length) * (56 : Nat) ≤ (16777216 : Nat)) then
                    bif decide (cmpC e e_1 ≤ (0 : Int)) then
                      bif decide ((1 : Int) ≤ (↑x0.length : Int)) then
                        bif decide ((0 : Int) ≤ cmpC e e_1) then
                          bif decide ((1 : Int) ≤ (↑x1.length : Int)) then Stp.next ((List.drop (1 : Nat) x0, List.drop (1 : Nat) x1, ()), x2 ++ [e_2], ()) else Stp.fail
                        else Stp.next ((List.drop (1 : Nat) x0, x1, ()), x2 ++ [e_2], ())
                      else Stp.fail
                    else
                      bif decide ((0 : Int) ≤ cmpC e e_1) then bif decide ((1 : Int) ≤ (↑x1.length : Int)) then Stp.next ((x0, List.drop (1 : Nat) x1, ()), x2 ++ [e_2], ()) else Stp.fail
                      else Stp.next ((x0, x1, ()), x2 ++ [e_2], ())
                  else Stp.fail
              else
                opt? (getI x0 (0 : Int)) Stp.fail fun e_2 =>
                  opt? (getI x1 (0 : Int)) Stp.fail fun e_3 =>
                    bif !(e_2.v.n == e_3.v.n && (e_2.v.flag == e_3.v.flag && (e_2.v.text == e_3.v.text && (e_2.v.ref == e_3.v.ref && true)))) then
                      opt? (getI x1 (0 : Int)) Stp.fail fun e_4 =>
                        bif decide ((x2.length + [e_4].length) * (56 : Nat) ≤ (16777216 : Nat)) then
                          bif decide (cmpC e e_1 ≤ (0 : Int)) then
                            bif decide ((1 : Int) ≤ (↑x0.length : Int)) then
                              bif decide ((0 : Int) ≤ cmpC e e_1) then
                                bif decide ((1 : Int) ≤ (↑x1.length : Int)) then Stp.next ((List.drop (1 : Nat) x0, List.drop (1 : Nat) x1, ()), x2 ++ [e_4], ()) else Stp.fail
                              else Stp.next ((List.drop (1 : Nat) x0, x1, ()), x2 ++ [e_4], ())
                            else Stp.fail
                          else
                            bif decide ((0 : Int) ≤ cmpC e e_1) then
                              bif decide ((1 : Int) ≤ (↑x1.length : Int)) then Stp.next ((x0, List.drop (1 : Nat) x1, ()), x2 ++ [e_4], ()) else Stp.fail
                            else Stp.next ((x0, x1, ()), x2 ++ [e_4], ())
                        else Stp.fail
                    else
                      bif decide (cmpC e e_1 ≤ (0 : Int)) then
                        bif decide ((1 : Int) ≤ (↑x0.length : Int)) then
                          bif decide ((0 : Int) ≤ cmpC e e_1) then
                            bif decide ((1 : Int) ≤ (↑x1.length : Int)) then Stp.next ((List.drop (1 : Nat) x0, List.drop (1 : Nat) x1, ()), x2, ()) else Stp.fail
                          else Stp.next ((List.drop (1 : Nat) x0, x1, ()), x2, ())
                        else Stp.fail
                      else
                        bif decide ((0 : Int) ≤ cmpC e e_1) then bif decide ((1 : Int) ≤ (↑x1.length : Int)) then Stp.next ((x0, List.drop (1 : Nat) x1, ()), x2, ()) else Stp.fail
                        else Stp.next ((x0, x1, ()), x2, ())
  else
    bif decide ((0 : Int) < (↑x1.length : Int)) then
      bif (↑x1.length : Int) == (0 : Int) then
        opt? (getI x0 (0 : Int)) Stp.fail fun e =>
          opt? (getI x0 (0 : Int)) Stp.fail fun e_1 =>
            bif decide ((x2.length + [Cel.mk e.id e_1.field (Val.mk (0 : Int) false (ByteArray.mk #[]) (0 : Int))].length) * (56 : Nat) ≤ (16777216 : Nat)) then
              bif decide ((1 : Int) ≤ (↑x0.length : Int)) then
                Stp.next ((List.drop (1 : Nat) x0, x1, ()), x2 ++ [Cel.mk e.id e_1.field (Val.mk (0 : Int) false (ByteArray.mk #[]) (0 : Int))], ())
              else Stp.fail
            else Stp.fail
      else
        bif (↑x0.length : Int) == (0 : Int) then
          opt? (getI x1 (0 : Int)) Stp.fail fun e =>
            bif decide ((x2.length + [e].length) * (56 : Nat) ≤ (16777216 : Nat)) then
              bif decide ((1 : Int) ≤ (↑x1.length : Int)) then Stp.next ((x0, List.drop (1 : Nat) x1, ()), x2 ++ [e], ()) else Stp.fail
            else Stp.fail
        else
          opt? (getI x0 (0 : Int)) Stp.fail fun e =>
            opt? (getI x1 (0 : Int)) Stp.fail fun e_1 =>
              bif decide (cmpC e e_1 < (0 : Int)) then
                opt? (getI x0 (0 : Int)) Stp.fail fun e_2 =>
                  opt? (getI x0 (0 : Int)) Stp.fail fun e_3 =>
                    bif decide ((x2.length + [Cel.mk e_2.id e_3.field (Val.mk (0 : Int) false (ByteArray.mk #[]) (0 : Int))].length) * (56 : Nat) ≤ (16777216 : Nat)) then
                      bif decide (cmpC e e_1 ≤ (0 : Int)) then
                        bif decide ((1 : Int) ≤ (↑x0.length : Int)) then
                          bif decide ((0 : Int) ≤ cmpC e e_1) then
                            bif decide ((1 : Int) ≤ (↑x1.length : Int)) then
                              Stp.next ((List.drop (1 : Nat) x0, List.drop (1 : Nat) x1, ()), x2 ++ [Cel.mk e_2.id e_3.field (Val.mk (0 : Int) false (ByteArray.mk #[]) (0 : Int))], ())
                            else Stp.fail
                          else Stp.next ((List.drop (1 : Nat) x0, x1, ()), x2 ++ [Cel.mk e_2.id e_3.field (Val.mk (0 : Int) false (ByteArray.mk #[]) (0 : Int))], ())
                        else Stp.fail
                      else
                        bif decide ((0 : Int) ≤ cmpC e e_1) then
                          bif decide ((1 : Int) ≤ (↑x1.length : Int)) then
                            Stp.next ((x0, List.drop (1 : Nat) x1, ()), x2 ++ [Cel.mk e_2.id e_3.field (Val.mk (0 : Int) false (ByteArray.mk #[]) (0 : Int))], ())
                          else Stp.fail
                        else Stp.next ((x0, x1, ()), x2 ++ [Cel.mk e_2.id e_3.field (Val.mk (0 : Int) false (ByteArray.mk #[]) (0 : Int))], ())
                    else Stp.fail
              else
                bif decide ((0 : Int) < cmpC e e_1) then
                  opt? (getI x1 (0 : Int)) Stp.fail fun e_2 =>
                    bif decide ((x2.length + [e_2].length) * (56 : Nat) ≤ (16777216 : Nat)) then
                      bif decide (cmpC e e_1 ≤ (0 : Int)) then
                        bif decide ((1 : Int) ≤ (↑x0.length : Int)) then
                          bif decide ((0 : Int) ≤ cmpC e e_1) then
                            bif decide ((1 : Int) ≤ (↑x1.length : Int)) then Stp.next ((List.drop (1 : Nat) x0, List.drop (1 : Nat) x1, ()), x2 ++ [e_2], ()) else Stp.fail
                          else Stp.next ((List.drop (1 : Nat) x0, x1, ()), x2 ++ [e_2], ())
                        else Stp.fail
                      else
                        bif decide ((0 : Int) ≤ cmpC e e_1) then bif decide ((1 : Int) ≤ (↑x1.length : Int)) then Stp.next ((x0, List.drop (1 : Nat) x1, ()), x2 ++ [e_2], ()) else Stp.fail
                        else Stp.next ((x0, x1, ()), x2 ++ [e_2], ())
                    else Stp.fail
                else
                  opt? (getI x0 (0 : Int)) Stp.fail fun e_2 =>
                    opt? (getI x1 (0 : Int)) Stp.fail fun e_3 =>
                      bif !(e_2.v.n == e_3.v.n && (e_2.v.flag == e_3.v.flag && (e_2.v.text == e_3.v.text && (e_2.v.ref == e_3.v.ref && true)))) then
                        opt? (getI x1 (0 : Int)) Stp.fail fun e_4 =>
                          bif decide ((x2.length + [e_4].length) * (56 : Nat) ≤ (16777216 : Nat)) then
                            bif decide (cmpC e e_1 ≤ (0 : Int)) then
                              bif decide ((1 : Int) ≤ (↑x0.length : Int)) then
                                bif decide ((0 : Int) ≤ cmpC e e_1) then
                                  bif decide ((1 : Int) ≤ (↑x1.length : Int)) then Stp.next ((List.drop (1 : Nat) x0, List.drop (1 : Nat) x1, ()), x2 ++ [e_4], ()) else Stp.fail
                                else Stp.next ((List.drop (1 : Nat) x0, x1, ()), x2 ++ [e_4], ())
                              else Stp.fail
                            else
                              bif decide ((0 : Int) ≤ cmpC e e_1) then
                                bif decide ((1 : Int) ≤ (↑x1.length : Int)) then Stp.next ((x0, List.drop (1 : Nat) x1, ()), x2 ++ [e_4], ()) else Stp.fail
                              else Stp.next ((x0, x1, ()), x2 ++ [e_4], ())
                          else Stp.fail
                      else
                        bif decide (cmpC e e_1 ≤ (0 : Int)) then
                          bif decide ((1 : Int) ≤ (↑x0.length : Int)) then
                            bif decide ((0 : Int) ≤ cmpC e e_1) then
                              bif decide ((1 : Int) ≤ (↑x1.length : Int)) then Stp.next ((List.drop (1 : Nat) x0, List.drop (1 : Nat) x1, ()), x2, ()) else Stp.fail
                            else Stp.next ((List.drop (1 : Nat) x0, x1, ()), x2, ())
                          else Stp.fail
                        else
                          bif decide ((0 : Int) ≤ cmpC e e_1) then bif decide ((1 : Int) ≤ (↑x1.length : Int)) then Stp.next ((x0, List.drop (1 : Nat) x1, ()), x2, ()) else Stp.fail
                          else Stp.next ((x0, x1, ()), x2, ())
    else Stp.done (LO.exit (0 : Nat) ((), x2, ()))
noncomputable def cells_Diff.F (it : It) (x0 : List Cel) (x1 : List Cel) : Option (List Cel) :=
    bif decide (x0.length < (4611686018427387904 : Nat)) then
    bif !validB x0 then some []
    else
      bif decide (x1.length < (4611686018427387904 : Nat)) then
        bif !validB x1 then some []
        else
          opt? (it (fun t => cells_Diff.B0 it t.1.1 t.1.2.1 t.2.1) ((x0, x1, ()), [], ())) none fun o =>
            match o with
            | LO.exit j u => bif j.beq (0 : Nat) then some u.snd.fst else none
            | LO.ret v => some v
      else none
  else none
noncomputable def cells_Diff.G (it : It) (a : List Cel × List Cel × Unit) : Option (List Cel) := cells_Diff.F it a.1 a.2.1
def ref12_Diff.B0 (it : It) (x0 : List
    Cel) (x1 : List
    Cel) (x2 : Int) (x3 : List
    Cel) (x4 : List Cel) : Stp ((List Cel × List Cel × Int × Unit) × List Cel × List Cel × Unit) (LO (Unit × List Cel × Unit) (List Cel)) :=
    bif decide (x2 < (↑x4.length : Int)) then
    opt? (getI x4 x2) Stp.fail fun x =>
      opt? (getN x4 x2.toNat) Stp.fail fun e =>
        opt? (getI x4 x2) Stp.fail fun x =>
          opt? (getN x4 x2.toNat) Stp.fail fun e_1 =>
            bif decide (x1.length < (4611686018427387904 : Nat)) then
              opt? (getI x4 x2) Stp.fail fun x =>
                opt? (getN x4 x2.toNat) Stp.fail fun e_2 =>
                  opt? (getI x4 x2) Stp.fail fun x =>
                    opt? (getN x4 x2.toNat) Stp.fail fun e_3 =>
                      bif decide (x0.length < (4611686018427387904 : Nat)) then
                        bif
                            !((getB e.id e_1.field x1).n == (getB e_2.id e_3.field x0).n &&
                                ((getB e.id e_1.field x1).flag == (getB e_2.id e_3.field x0).flag &&
                                  ((getB e.id e_1.field x1).text == (getB e_2.id e_3.field x0).text && ((getB e.id e_1.field x1).ref == (getB e_2.id e_3.field x0).ref && true)))) then
                          opt? (getI x4 x2) Stp.fail fun x =>
                            opt? (getN x4 x2.toNat) Stp.fail fun e_4 =>
                              opt? (getI x4 x2) Stp.fail fun x =>
                                opt? (getN x4 x2.toNat) Stp.fail fun e_5 =>
                                  bif decide ((x3.length + [Cel.mk e_4.id e_5.field (getB e.id e_1.field x1)].length) * (56 : Nat) ≤ (16777216 : Nat)) then
                                    Stp.next ((x0, x1, IntKind.i64.wrap (x2 + (1 : Int)), ()), x3 ++ [Cel.mk e_4.id e_5.field (getB e.id e_1.field x1)], x4, ())
                                  else Stp.fail
                        else Stp.next ((x0, x1, IntKind.i64.wrap (x2 + (1 : Int)), ()), x3, x4, ())
                      else Stp.fail
            else Stp.fail
  else Stp.done (LO.exit (0 : Nat) ((), x3, ()))
noncomputable def ref12_Diff.F (it : It) (x0 : List Cel) (x1 : List Cel) : Option (List Cel) :=
    bif decide (x0.length < (4611686018427387904 : Nat)) then
    bif !validB x0 then some []
    else
      bif decide (x1.length < (4611686018427387904 : Nat)) then
        bif !validB x1 then some []
        else
          bif decide (x0.length + x1.length < (100000 : Nat)) then
            opt? (it (fun t => ref12_Diff.B0 it t.1.1 t.1.2.1 t.1.2.2.1 t.2.1 t.2.2.1) ((x0, x1, (0 : Int), ()), [], over x0 x1, ())) none fun o =>
              match o with
              | LO.exit j u => bif j.beq (0 : Nat) then some u.snd.fst else none
              | LO.ret v => some v
          else none
      else none
  else none
noncomputable def ref12_Diff.G (it : It) (a : List Cel × List Cel × Unit) : Option (List Cel) := ref12_Diff.F it a.1 a.2.1
noncomputable def law12_one.F (it : It) (x0 : Int) (x1 : Val) : Option (List Cel) :=
    some [Cel.mk (1048577 : Int) x0 x1]
noncomputable def law12_one.G (it : It) (a : Int × Val × Unit) : Option (List Cel) := law12_one.F it a.1 a.2.1
noncomputable def law12_light.F (it : It) (x0 : List Cel) (x1 : List Cel) : Option Bool :=
    bif decide ((↑x0.length : Int) ≤ (200 : Int)) then some (decide ((↑x1.length : Int) ≤ (200 : Int))) else some false
noncomputable def law12_light.G (it : It) (a : List Cel × List Cel × Unit) : Option Bool := law12_light.F it a.1 a.2.1
noncomputable def law12_awake.F (it : It) : Option Bool :=
    some
    ((↑(diffB
              ([Cel.mk (1048577 : Int) (1 : Int) (Val.mk (2 : Int) false (ByteArray.mk #[]) (0 : Int))] ++
                [Cel.mk (1048577 : Int) (3 : Int) (Val.mk (0 : Int) false (ByteArray.mk #[(102 : UInt8)]) (0 : Int))])
              ([Cel.mk (1048577 : Int) (1 : Int) (Val.mk (2 : Int) false (ByteArray.mk #[]) (0 : Int))] ++
                [Cel.mk (1048577 : Int) (3 : Int) (Val.mk (0 : Int) false (ByteArray.mk #[(102 : UInt8)]) (0 : Int))])).length :
        Int) ==
      (0 : Int))
noncomputable def law12_awake.G (it : It) (a : Unit) : Option Bool := law12_awake.F it
noncomputable def law12_CellsValid.F (it : It) (x0 : List Cel) : Option Bool :=
    bif !(decide (x0.length ≤ (200 : Nat)) && decide ((0 : Nat) ≤ (200 : Nat))) then some true
  else
    bif decide (x0.length < (4611686018427387904 : Nat)) then
      bif decide (x0.length < (4611686018427387904 : Nat)) then
        bif validB x0 == validB x0 then
          bif decide (x0.length < (4611686018427387904 : Nat)) then bif decide (x0.length < (4611686018427387904 : Nat)) then some (writesB x0 == writesB x0) else none else none
        else some false
      else none
    else none
noncomputable def law12_CellsValid.G (it : It) (a : List Cel × Unit) : Option Bool := law12_CellsValid.F it a.1
noncomputable def law12_CellsReads.F (it : It) (x0 : List Cel) (x1 : Int) (x2 : Int) : Option Bool :=
    bif !(decide (x0.length ≤ (200 : Nat)) && decide ((0 : Nat) ≤ (200 : Nat))) then some true
  else
    bif decide (x0.length < (4611686018427387904 : Nat)) then
      bif decide (x0.length < (4611686018427387904 : Nat)) then
        bif
            (getB x1 x2 x0).n == (getB x1 x2 x0).n &&
              ((getB x1 x2 x0).flag == (getB x1 x2 x0).flag && ((getB x1 x2 x0).text == (getB x1 x2 x0).text && ((getB x1 x2 x0).ref == (getB x1 x2 x0).ref && true))) then
          bif decide (x0.length < (100000 : Nat)) then
            bif decide (x0.length < (100000 : Nat)) then bif decide ((ofB x1 x0).length < (4611686018427387904 : Nat)) then some (sameB (ofB x1 x0) (ofB x1 x0)) else none else none
          else none
        else some false
      else none
    else none
noncomputable def law12_CellsReads.G (it : It) (a : List Cel × Int × Int × Unit) : Option Bool := law12_CellsReads.F it a.1 a.2.1 a.2.2.1
noncomputable def law12_CellsPuts.F (it : It) (x0 : List Cel) (x1 : List Cel) : Option Bool :=
    bif !(decide (x0.length ≤ (200 : Nat)) && decide (x1.length ≤ (200 : Nat))) then some true
  else
    bif decide (x0.length + x1.length < (100000 : Nat)) then
      bif decide (x0.length + x1.length < (100000 : Nat)) then
        bif decide ((putB x0 x1).length < (4611686018427387904 : Nat)) then
          bif sameB (putB x0 x1) (putB x0 x1) then
            bif decide (x0.length + x1.length < (100000 : Nat)) then
              bif decide (x0.length + x1.length < (100000 : Nat)) then
                bif decide ((diffB x0 x1).length < (4611686018427387904 : Nat)) then
                  bif sameB (diffB x0 x1) (diffB x0 x1) then
                    bif decide (x1.length + x0.length < (100000 : Nat)) then
                      bif decide (x1.length + x0.length < (100000 : Nat)) then bif decide ((diffB x1 x0).length < (4611686018427387904 : Nat)) then some (sameB (diffB x1 x0) (diffB x1 x0)) else none
                      else none
                    else none
                  else some false
                else none
              else none
            else none
          else some false
        else none
      else none
    else none
noncomputable def law12_CellsPuts.G (it : It) (a : List Cel × List Cel × Unit) : Option Bool := law12_CellsPuts.F it a.1 a.2.1
def law12_CellsBack.B0 (it : It) (x0 : List
    Cel) (x1 : List
    Cel) (x2 : Int) (x3 : List Cel) : Stp ((List Cel × List Cel × Int × Unit) × List Cel × Unit) (LO ((List Cel × List Cel × Unit) × List Cel × Unit) Bool) :=
    bif decide (x2 < (↑x3.length : Int)) then
    opt? (getI x3 x2) Stp.fail fun x =>
      opt? (getN x3 x2.toNat) Stp.fail fun e =>
        opt? (getI x3 x2) Stp.fail fun x =>
          opt? (getN x3 x2.toNat) Stp.fail fun e_1 =>
            bif decide (x0.length < (4611686018427387904 : Nat)) then
              opt? (getI x3 x2) Stp.fail fun x =>
                opt? (getN x3 x2.toNat) Stp.fail fun e_2 =>
                  bif
                      (getB e.id e_1.field x0).n == e_2.v.n &&
                        ((getB e.id e_1.field x0).flag == e_2.v.flag && ((getB e.id e_1.field x0).text == e_2.v.text && ((getB e.id e_1.field x0).ref == e_2.v.ref && true))) then
                    Stp.done (LO.ret false)
                  else Stp.next ((x0, x1, IntKind.i64.wrap (x2 + (1 : Int)), ()), x3, ())
            else Stp.fail
  else Stp.done (LO.exit (0 : Nat) ((x0, x1, ()), x3, ()))
noncomputable def law12_CellsBack.F (it : It) (x0 : List Cel) (x1 : List Cel) : Option Bool :=
    bif !(decide (x0.length ≤ (200 : Nat)) && decide (x1.length ≤ (200 : Nat))) then some true
  else
    bif decide (x0.length < (4611686018427387904 : Nat)) then
      bif !validB x0 then some true
      else
        bif decide (x1.length < (4611686018427387904 : Nat)) then
          bif !validB x1 then some true
          else
            bif decide (x0.length + x1.length < (100000 : Nat)) then
              opt? (it (fun t => law12_CellsBack.B0 it t.1.1 t.1.2.1 t.1.2.2.1 t.2.1) ((x0, x1, (0 : Int), ()), diffB x0 x1, ())) none fun o =>
                match o with
                | LO.exit j u =>
                  bif j.beq (0 : Nat) then
                    bif decide (u.snd.fst.length < (4611686018427387904 : Nat)) then
                      bif writesB u.snd.fst then
                        bif decide (u.fst.fst.length + u.snd.fst.length < (100000 : Nat)) then
                          bif decide ((putB u.fst.fst u.snd.fst).length < (4611686018427387904 : Nat)) then some (sameB (putB u.fst.fst u.snd.fst) u.fst.snd.fst) else none
                        else none
                      else some false
                    else none
                  else none
                | LO.ret v => some v
            else none
        else none
    else none
noncomputable def law12_CellsBack.G (it : It) (a : List Cel × List Cel × Unit) : Option Bool := law12_CellsBack.F it a.1 a.2.1
def law12_CellsRegisters.B0 (it : It) (x0 : List
    Cel) (x1 : Int) (x2 : Int) (x3 : Int) (x4 : List
    Cel) (x5 : Int) (x6 : Bool) (x7 : ByteArray) (x8 : Int) : Stp ((List Cel × Int × Int × Int × Unit) × List Cel × (Int × Bool × ByteArray × Int × Unit) × Unit)
    (LO ((Int × Int × Unit) × List Cel × (Int × Bool × ByteArray × Int × Unit) × Unit) Bool) :=
    bif decide (x3 < (↑x0.length : Int)) then
    opt? (getI x0 x3) Stp.fail fun e =>
      bif e.id == x1 then
        opt? (getI x0 x3) Stp.fail fun e =>
          bif e.field == x2 then
            opt? (getI x0 x3) Stp.fail fun e =>
              opt? (getI x0 x3) Stp.fail fun e_1 =>
                opt? (getI x0 x3) Stp.fail fun e_2 =>
                  bif decide (x4.length < (4611686018427387904 : Nat)) then
                    opt? (getI x0 x3) Stp.fail fun e_3 =>
                      bif
                          !((getB e_1.id e_2.field x4).n == e_3.v.n &&
                              ((getB e_1.id e_2.field x4).flag == e_3.v.flag && ((getB e_1.id e_2.field x4).text == e_3.v.text && ((getB e_1.id e_2.field x4).ref == e_3.v.ref && true)))) then
                        Stp.done (LO.ret false)
                      else Stp.next ((x0, x1, x2, IntKind.i64.wrap (x3 + (1 : Int)), ()), x4, (e.v.n, e.v.flag, e.v.text, e.v.ref, ()), ())
                  else Stp.fail
          else
            opt? (getI x0 x3) Stp.fail fun e =>
              opt? (getI x0 x3) Stp.fail fun e_1 =>
                bif decide (x4.length < (4611686018427387904 : Nat)) then
                  opt? (getI x0 x3) Stp.fail fun e_2 =>
                    bif
                        !((getB e.id e_1.field x4).n == e_2.v.n &&
                            ((getB e.id e_1.field x4).flag == e_2.v.flag && ((getB e.id e_1.field x4).text == e_2.v.text && ((getB e.id e_1.field x4).ref == e_2.v.ref && true)))) then
                      Stp.done (LO.ret false)
                    else Stp.next ((x0, x1, x2, IntKind.i64.wrap (x3 + (1 : Int)), ()), x4, (x5, x6, x7, x8, ()), ())
                else Stp.fail
      else
        opt? (getI x0 x3) Stp.fail fun e =>
          opt? (getI x0 x3) Stp.fail fun e_1 =>
            bif decide (x4.length < (4611686018427387904 : Nat)) then
              opt? (getI x0 x3) Stp.fail fun e_2 =>
                bif
                    !((getB e.id e_1.field x4).n == e_2.v.n &&
                        ((getB e.id e_1.field x4).flag == e_2.v.flag && ((getB e.id e_1.field x4).text == e_2.v.text && ((getB e.id e_1.field x4).ref == e_2.v.ref && true)))) then
                  Stp.done (LO.ret false)
                else Stp.next ((x0, x1, x2, IntKind.i64.wrap (x3 + (1 : Int)), ()), x4, (x5, x6, x7, x8, ()), ())
            else Stp.fail
  else Stp.done (LO.exit (0 : Nat) ((x1, x2, ()), x4, (x5, x6, x7, x8, ()), ()))
noncomputable def law12_CellsRegisters.F (it : It) (x0 : List Cel) (x1 : List Cel) (x2 : Int) (x3 : Int) : Option Bool :=
    bif !(decide (x0.length ≤ (200 : Nat)) && decide (x1.length ≤ (200 : Nat))) then some true
  else
    bif decide (x0.length < (4611686018427387904 : Nat)) then
      bif !validB x0 then some true
      else
        bif decide (x1.length < (4611686018427387904 : Nat)) then
          bif !writesB x1 then some true
          else
            bif decide (x0.length + x1.length < (100000 : Nat)) then
              bif decide (x0.length < (4611686018427387904 : Nat)) then
                opt?
                  (it (fun t => law12_CellsRegisters.B0 it t.1.1 t.1.2.1 t.1.2.2.1 t.1.2.2.2.1 t.2.1 t.2.2.1.1 t.2.2.1.2.1 t.2.2.1.2.2.1 t.2.2.1.2.2.2.1) ((x1, x2, x3, (0 : Int), ()), putB x0 x1, ((getB x2 x3 x0).n, (getB x2 x3 x0).flag, (getB x2 x3 x0).text, (getB x2 x3 x0).ref, ()), ()))
                  none fun o =>
                  match o with
                  | LO.exit j u =>
                    bif j.beq (0 : Nat) then
                      bif decide (u.snd.fst.length < (4611686018427387904 : Nat)) then
                        bif validB u.snd.fst then
                          bif decide (u.snd.fst.length < (4611686018427387904 : Nat)) then
                            some
                              ((getB u.fst.fst u.fst.snd.fst u.snd.fst).n == u.snd.snd.fst.fst &&
                                ((getB u.fst.fst u.fst.snd.fst u.snd.fst).flag == u.snd.snd.fst.snd.fst &&
                                  ((getB u.fst.fst u.fst.snd.fst u.snd.fst).text == u.snd.snd.fst.snd.snd.fst && ((getB u.fst.fst u.fst.snd.fst u.snd.fst).ref == u.snd.snd.fst.snd.snd.snd.fst && true))))
                          else none
                        else some false
                      else none
                    else none
                  | LO.ret v => some v
              else none
            else none
        else none
    else none
noncomputable def law12_CellsRegisters.G (it : It) (a : List Cel × List Cel × Int × Int × Unit) : Option Bool := law12_CellsRegisters.F it a.1 a.2.1 a.2.2.1 a.2.2.2.1
def law12_CellsApart.B1 (it : It) (x0 : List
    Cel) (x1 : List
    Cel) (x2 : List
    Cel) (x3 : Int) (x4 : Int) : Stp ((List Cel × List Cel × List Cel × Int × Int × Unit) × Unit)
    (LO ((List Cel × List Cel × List Cel × Int × Unit) × Unit) Bool) :=
    bif decide (x4 < (↑x2.length : Int)) then
    opt? (getI x1 x3) Stp.fail fun e =>
      opt? (getI x2 x4) Stp.fail fun e_1 =>
        bif regB e e_1 then Stp.done (LO.ret true) else Stp.next ((x0, x1, x2, x3, IntKind.i64.wrap (x4 + (1 : Int)), ()), ())
  else Stp.done (LO.exit (2 : Nat) ((x0, x1, x2, x3, ()), ()))
def law12_CellsApart.B0 (it : It) (x0 : List
    Cel) (x1 : List
    Cel) (x2 : List Cel) (x3 : Int) : Stp ((List Cel × List Cel × List Cel × Int × Unit) × Unit) (LO ((List Cel × List Cel × List Cel × Unit) × Unit) Bool) :=
    bif decide (x3 < (↑x1.length : Int)) then
    opt? (it (fun t => law12_CellsApart.B1 it t.1.1 t.1.2.1 t.1.2.2.1 t.1.2.2.2.1 t.1.2.2.2.2.1) ((x0, x1, x2, x3, (0 : Int), ()), ())) Stp.fail fun o =>
      match o with
      | LO.exit j u =>
        bif j.beq (2 : Nat) then Stp.next ((u.fst.fst, u.fst.snd.fst, u.fst.snd.snd.fst, IntKind.i64.wrap (u.fst.snd.snd.snd.fst + (1 : Int)), ()), ())
        else
          bif j.beq (1 : Nat) then Stp.next ((u.fst.fst, u.fst.snd.fst, u.fst.snd.snd.fst, IntKind.i64.wrap (u.fst.snd.snd.snd.fst + (1 : Int)), ()), ())
          else Stp.done (LO.exit j ((u.fst.fst, u.fst.snd.fst, u.fst.snd.snd.fst, ()), ()))
      | LO.ret v => Stp.done (LO.ret v)
  else Stp.done (LO.exit (0 : Nat) ((x0, x1, x2, ()), ()))
noncomputable def law12_CellsApart.F (it : It) (x0 : List Cel) (x1 : List Cel) (x2 : List Cel) : Option Bool :=
    bif !(decide (x0.length ≤ (200 : Nat)) && decide ((0 : Nat) ≤ (200 : Nat))) then some true
  else
    bif !(decide (x1.length ≤ (200 : Nat)) && decide (x2.length ≤ (200 : Nat))) then some true
    else
      bif decide (x0.length < (4611686018427387904 : Nat)) then
        bif !validB x0 then some true
        else
          bif decide (x1.length < (4611686018427387904 : Nat)) then
            bif !writesB x1 then some true
            else
              bif decide (x2.length < (4611686018427387904 : Nat)) then
                bif !writesB x2 then some true
                else
                  opt? (it (fun t => law12_CellsApart.B0 it t.1.1 t.1.2.1 t.1.2.2.1 t.1.2.2.2.1) ((x0, x1, x2, (0 : Int), ()), ())) none fun o =>
                    match o with
                    | LO.exit j u =>
                      bif j.beq (0 : Nat) then
                        bif decide (u.fst.fst.length + u.fst.snd.fst.length < (100000 : Nat)) then
                          bif decide ((putB u.fst.fst u.fst.snd.fst).length + u.fst.snd.snd.fst.length < (100000 : Nat)) then
                            bif decide ((putB (putB u.fst.fst u.fst.snd.fst) u.fst.snd.snd.fst).length < (4611686018427387904 : Nat)) then
                              bif validB (putB (putB u.fst.fst u.fst.snd.fst) u.fst.snd.snd.fst) then
                                bif decide (u.fst.fst.length + u.fst.snd.snd.fst.length < (100000 : Nat)) then
                                  bif decide ((putB u.fst.fst u.fst.snd.snd.fst).length + u.fst.snd.fst.length < (100000 : Nat)) then
                                    bif decide ((putB (putB u.fst.fst u.fst.snd.fst) u.fst.snd.snd.fst).length < (4611686018427387904 : Nat)) then
                                      some (sameB (putB (putB u.fst.fst u.fst.snd.fst) u.fst.snd.snd.fst) (putB (putB u.fst.fst u.fst.snd.snd.fst) u.fst.snd.fst))
                                    else none
                                  else none
                                else none
                              else some false
                            else none
                          else none
                        else none
                      else none
                    | LO.ret v => some v
              else none
          else none
      else none
noncomputable def law12_CellsApart.G (it : It) (a : List Cel × List Cel × List Cel × Unit) : Option Bool := law12_CellsApart.F it a.1 a.2.1 a.2.2.1

end Go.Am
