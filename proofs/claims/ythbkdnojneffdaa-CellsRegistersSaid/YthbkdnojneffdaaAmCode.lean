/- The abstract machine: code. -/
import Derived.Test.YthbkdnojneffdaaAmOps
namespace Go.Am
open Go.RowKit

inductive ACode where
  | skip
  | reg (draw : Bool) (ops : List AOper)
  | seq (a b : ACode)
  | cond (c : Opd) (a b : ACode)
  | block (id : Nat) (a : ACode)
  | loop (a : ACode)
  | exit (id : Nat)
  | ret
  deriving Inhabited

def compOper (P : Program) (ops : Array Oper) (o : Oper) : Option AOper :=
  match compOp P o.op with
  | none => none
  | some a =>
    match o.guard with
    | none => some { dst := o.dst, op := a, guard := none, after := (o.after.toList.filter (Region.binds .any)).map (·.on) }
    | some (j, want) => match (ops[j]?).bind (·.dst) with
      | some d => some { dst := o.dst, op := a, guard := some (d, want), after := (o.after.toList.filter (Region.binds .any)).map (·.on) }
      | none => none

def compOpers (P : Program) (ops : Array Oper) : List Oper → Option (List AOper)
  | [] => some []
  | o :: r => match compOper P ops o, compOpers P ops r with
    | some a, some as => some (a :: as)
    | _, _ => none

def compC (P : Program) : Code → Option ACode
  | .skip => some .skip
  | .region _ ops draw => (compOpers P ops ops.toList).map (.reg draw)
  | .seq a b => match compC P a, compC P b with
    | some x, some y => some (.seq x y)
    | _, _ => none
  | .cond c a b => match compX c, compC P a, compC P b with
    | some z, some x, some y => some (.cond z x y)
    | _, _, _ => none
  | .block id a => (compC P a).map (.block id)
  | .loop a => (compC P a).map .loop
  | .exit id => some (.exit id)
  | .ret => some .ret
  | _ => none

end Go.Am
