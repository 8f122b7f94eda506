/- The abstract machine: operations, their meaning, and how they come out of the program's own. -/
import Derived.Test.YthbkdnojneffdaaAmRel
namespace Go.Am
open Go.RowKit

inductive Opd where
  | t (n : Nat)
  | c (x : AV)
  deriving Inhabited

inductive AOp where
  | mov (x : Opd)
  | pick (c a b : Opd)
  | new (t : TypeId) (z : List AV)
  | box (t : TypeId) (x : Opd)
  | build (z : List AV) (parts : List (Nat × Nat × Opd))
  | bslice (t : TypeId) (sz len : Nat) (z : List AV) (parts : List (Nat × Opd))
  | load (agg : Bool) (sz : Nat) (x : Opd)
  | store (sz : Nat) (x v : Opd)
  | bin (op : BinOp) (t : TypeId) (x y : Opd)
  | eqb (neg : Bool) (x y : Opd)
  | eqs (neg : Bool) (t : TypeId) (x y : Opd)
  | un (op : UnOp) (x : Opd)
  | conv (k : IntKind) (x : Opd)
  | fa (off : Nat) (x : Opd)
  | ia (sz : Nat) (x i : Opd)
  | len (x : Opd)
  | lens (x : Opd)
  | slice (sz : Nat) (x : Opd) (lo hi : Option Opd)
  | append (t : TypeId) (sz bytes : Nat) (x y : Opd)
  | field (agg : Bool) (sz off : Nat) (x : Opd)
  | extract (x : Opd) (i : Nat)
  | call (v : Bool) (f : FuncId) (xs : List Opd)
  deriving Inhabited

structure AOper where
  dst : Option Nat
  op : AOp
  guard : Option (Nat × Bool)
  after : List Nat
  deriving Inhabited

def ofCell : Value → AV
  | .slice none 0 0 => .nils
  | u => .v u
/-- A cell of a zero element of a row. -/
def ofCellR : Value → AV
  | .slice none 0 0 => .vs []
  | u => .v u
def ofVal : Value → AV
  | .agg cs => .agg (cs.toList.map ofCell)
  | u => ofCell u

def AS.ev (s : AS) : Opd → AV
  | .t n => s.fr.getD n (.v undef)
  | .c x => x

/-- The value of a computation that asks nothing but the program. -/
def pureRun {α : Type} (P : Program) : Sem α → Option α
  | .pure a => some a
  | .program k => pureRun P (k P)
  | _ => none

theorem run_of_pure {α : Type} {P : Program} : ∀ {x : Sem α} {a : α}, pureRun P x = some a → ∀ w, x.run P w = .ok a w
  | .pure b, a, h, w => by simp [pureRun] at h; subst h; rfl
  | .program k, a, h, w => by
    simp only [pureRun] at h
    have := run_of_pure h w
    simpa [Sem.run] using this
  | .load .., _, h, _ | .store .., _, h, _ | .new .., _, h, _ | .shape .., _, h, _ | .freeze .., _, h, _ | .frozen .., _, h, _ | .getObj .., _, h, _ | .setObj .., _, h, _
  | .choose .., _, h, _ | .sys .., _, h, _ | .mark .., _, h, _ | .halt .., _, h, _ => by simp [pureRun] at h

def scalar : Value → Bool
  | .int _ _ | .bool _ | .string _ => true
  | _ => false

def splice (cs : List AV) (off : Nat) (new : List AV) : List AV := cs.take off ++ new ++ cs.drop (off + new.length)

def getCells (agg : Bool) (sz : Nat) (cs : List AV) (off : Nat) : Option AV :=
  if agg then (if off + sz ≤ cs.length then some (.agg ((cs.drop off).take sz)) else none) else cs[off]?

def vals? : List AV → Option (List Value)
  | [] => some []
  | .v x :: r => (vals? r).map (x :: ·)
  | _ :: _ => none

def fillA (ρ : Opd → AV) : List AV → List (Nat × Nat × Opd) → Option (List AV)
  | z, [] => some z
  | z, (off, sz, x) :: r =>
    match (ρ x).cells? with
    | some cs => if cs.length = sz ∧ off + sz ≤ z.length then fillA ρ (splice z off cs) r else none
    | none => none

def isPureB : AV → Bool
  | .v _ | .nils | .vs _ | .eptr .. => true
  | _ => false

/-- The elements that a slice has. -/
def content (st : Store) : AV → Option (List (List AV))
  | .nils => some []
  | .vs es => some es
  | .own id off len =>
    match st[id]? with
    | some (.row _ _ _ es) => if off + len ≤ es.length then some ((es.drop off).take len) else none
    | _ => none
  | _ => none

/-- A cell as it may be kept in a row: slices of one's own are read. -/
def reifyC (st : Store) : AV → Option AV
  | .v x => if (AV.v x).one then some (.v x) else none
  | .eptr es i off => some (.eptr es i off)
  | .fn f [] => some (.fn f [])
  | .nils => some (.vs [])
  | .vs es => some (.vs es)
  | .own id off len => (content st (.own id off len)).map .vs
  | _ => none

def reifyL (st : Store) : List AV → Option (List AV)
  | [] => some []
  | c :: r => match reifyC st c, reifyL st r with
    | some x, some xs => some (x :: xs)
    | _, _ => none

def reify (st : Store) : AV → Option AV
  | .agg cs => (reifyL st cs).map .agg
  | x => reifyC st x

def idC : AV → List Nat
  | .own id _ _ => [id]
  | _ => []
def AV.ids : AV → List Nat
  | .agg cs => cs.flatMap idC
  | x => idC x

def AObj.freeze : AObj → AObj
  | .row _ t sz es => .row false t sz es
  | o => o

def freeze (ids : List Nat) : Store → Store := fun st => st.mapIdx fun i o => if i ∈ ids then o.freeze else o

/-- The parts of a slice literal. -/
def partsA (ρ : Opd → AV) (st : Store) (sz : Nat) : List (List AV) → List (Nat × Opd) → Option (List (List AV) × List Nat)
  | es, [] => some (es, [])
  | es, (i, x) :: r =>
    match (ρ x).cells? with
    | some cs =>
      match reifyL st cs with
      | some ds => if ds.length = sz ∧ i < es.length then (partsA ρ st sz (es.set i ds) r).map fun p => (p.1, cs.flatMap idC ++ p.2) else none
      | none => none
    | none => none

/-- A bound that may lack. -/
def optI (ρ : Opd → AV) (x : Option Opd) (d : Int) : Option Int :=
  match x with
  | none => some d
  | some y => match ρ y with
    | .v (.int _ n) => some n
    | _ => none

/-- How long a slice may get. -/
def maxRow : Nat := 16777216

def semF (P : Program) (o : AOp) (ρ : Opd → AV) (st : Store) : Option (AV × Store) :=
  match o with
  | .mov x => some (ρ x, st)
  | .pick c a b => match ρ c with
    | .v (.bool t) => some (cond t (ρ a) (ρ b), st)
    | _ => none
  | .new t z => some (.ptr st.length 0, st ++ [.blk t z])
  | .box t x => match (ρ x).cells? with
    | some cs => some (.ptr st.length 0, st ++ [.blk t cs])
    | none => none
  | .build z parts => (fillA ρ z parts).map fun cs => (.agg cs, st)
  | .bslice t sz len z parts => match partsA ρ st sz (List.replicate len z) parts with
    | some (es, ids) => some (.own st.length 0 len, freeze ids st ++ [.row true t sz es])
    | none => none
  | .load agg sz x => match ρ x with
    | .ptr id off => match st[id]? with
      | some (.blk _ cs) => (getCells agg sz cs off).map (·, st)
      | _ => none
    | .rptr id i off => match st[id]? with
      | some (.row _ _ _ es) => match es[i]? with
        | some e => (getCells agg sz e off).map (·, st)
        | none => none
      | _ => none
    | .eptr es i off => match es[i]? with
      | some e => (getCells agg sz e off).map (·, st)
      | none => none
    | _ => none
  | .store sz x y => match ρ x, (ρ y).cells? with
    | .ptr id off, some new => match st[id]? with
      | some (.blk t cs) => if new.length = sz ∧ off + sz ≤ cs.length ∧ new.all AV.one = true then some (.v undef, st.set id (.blk t (splice cs off new))) else none
      | _ => none
    | _, _ => none
  | .bin op t x y => match ρ x, ρ y with
    | .v a, .v b => if scalar a && scalar b then (pureRun P (Go.binOp op t a b)).map fun v => (.v v, st) else none
    | _, _ => none
  | .eqb neg x y => match ρ x, ρ y with
    | .v (.bool a), .v (.bool b) => some (.v (.bool (if neg then a != b else a == b)), st)
    | _, _ => none
  | .eqs neg t x y => match ρ x, ρ y with
    | .agg cs, .agg ds => match vals? cs, vals? ds with
      | some us, some vs => (pureRun P (Op.equal t (.agg us.toArray) (.agg vs.toArray))).map fun b => (.v (.bool (if neg then !b else b)), st)
      | _, _ => none
    | _, _ => none
  | .un op x => match ρ x with
    | .v a => (pureRun P (Op.unary op a)).map fun v => (.v v, st)
    | _ => none
  | .conv k x => match ρ x with
    | .v (.int _ n) => some (.v (.int k (k.wrap n)), st)
    | _ => none
  | .fa off x => match ρ x with
    | .ptr id o => some (.ptr id (o + off), st)
    | .rptr id i o => some (.rptr id i (o + off), st)
    | .eptr es i o => some (.eptr es i (o + off), st)
    | _ => none
  | .ia sz x i => match ρ x, ρ i with
    | .vs es, .v (.int _ n) => if 0 ≤ n ∧ n < es.length then (match es[n.toNat]? with
      | some e => if e.length = sz then some (.eptr [e] 0 0, st) else none
      | none => none) else none
    | .own id off len, .v (.int _ n) => match st[id]? with
      | some (.row _ _ z _) => if 0 ≤ n ∧ n < len ∧ z = sz then some (.rptr id (off + n.toNat) 0, st) else none
      | _ => none
    | _, _ => none
  | .len x => match ρ x with
    | .vs es => some (.v (.int .i64 es.length), st)
    | .own _ _ len => some (.v (.int .i64 len), st)
    | .nils => some (.v (.int .i64 0), st)
    | _ => none
  | .lens x => match ρ x with
    | .v (.string s) => some (.v (.int .i64 s.size), st)
    | _ => none
  | .slice sz x lo hi =>
    match ρ x with
    | .vs es => match optI ρ lo 0, optI ρ hi es.length with
      | some l, some h => if 0 ≤ l ∧ l ≤ h ∧ h ≤ es.length ∧ (es.all fun e => e.length == sz) = true then some (.vs ((es.take h.toNat).drop l.toNat), st) else none
      | _, _ => none
    | .own id off len => match optI ρ lo 0, optI ρ hi len, st[id]? with
      | some l, some h, some (.row _ _ z _) => if 0 ≤ l ∧ l ≤ h ∧ h ≤ len ∧ z = sz then (if l = h ∧ l ≠ 0 then some (.vs [], st) else some (.own id (off + l.toNat) (h.toNat - l.toNat), st)) else none
      | _, _, _ => none
    | .nils => match optI ρ lo 0, optI ρ hi 0 with
      | some l, some h => if l = 0 ∧ h = 0 then some (.nils, st) else none
      | _, _ => none
    | _ => none
  | .append t sz bytes x y => match content st (ρ y) with
    | none => none
    | some [] => match ρ x with
      | .nils => some (.nils, st)
      | .own id off len => some (.own id off len, st)
      | _ => none
    | some news => match ρ x with
      | .nils => if news.length * bytes ≤ maxRow ∧ (news.all fun e => e.length == sz) = true then some (.own st.length 0 news.length, st ++ [.row true t sz news]) else none
      | .own id 0 len => match st[id]? with
        | some (.row true t' sz' es) => if t' = t ∧ sz' = sz ∧ len ≤ es.length ∧ (len + news.length) * bytes ≤ maxRow ∧ len + news.length ≤ maxRow ∧ (news.all fun e => e.length == sz) = true then
            some (.own st.length 0 (len + news.length), st.set id .gone ++ [.row true t sz (es.take len ++ news)]) else none
        | _ => none
      | _ => none
  | .field agg sz off x => match ρ x with
    | .agg cs => (getCells agg sz cs off).map (·, st)
    | _ => none
  | .extract x i => match ρ x with
    | .tup cs => match cs[i]? with
      | some c => some (c, st)
      | none => none
    | _ => none
  | .call _ _ _ => none

/-- Operands. -/
def compX : Operand → Option Opd
  | .tmp t => some (.t t)
  | .const v => some (.c (ofVal v))
  | .func f => some (.c (.fn f []))
  | .global _ => none

def compXs : List Operand → Option (List Opd)
  | [] => some []
  | x :: r => match compX x, compXs r with
    | some y, some ys => some (y :: ys)
    | _, _ => none

def isAggD : TypeDesc → Bool
  | .struct _ | .array _ _ => true
  | _ => false

def sizeP (P : Program) (t : TypeId) : Nat := match P.info? t with | some i => i.size | none => 0

def compPlaces (place : Nat → Option (Nat × Nat)) : List (Nat × Operand) → Option (List (Nat × Nat × Opd))
  | [] => some []
  | (i, x) :: r => match place i, compX x, compPlaces place r with
    | some p, some y, some ys => some ((p.1, p.2, y) :: ys)
    | _, _, _ => none

def compParts : List (Nat × Operand) → Option (List (Nat × Opd))
  | [] => some []
  | (i, x) :: r => match compX x, compParts r with
    | some y, some ys => some ((i, y) :: ys)
    | _, _ => none

def compOpt : Option Operand → Option (Option Opd)
  | none => some none
  | some x => (compX x).map some

/-- Whether a function's results have no pointers. -/
def flatRes (P : Program) (fn : Func) : Bool := fn.resultTypes.all fun t => match P.info? t with
  | some i => match i.zero with
    | some z => z.cells.all scalar
    | none => false
  | none => false

/-- The abstract operation of an operation of the program. -/
def compOp (P : Program) : Op → Option AOp
  | .move x | .assign x => (compX x).map .mov
  | .pick c a b => match compX c, compX a, compX b with
    | some c, some a, some b => some (.pick c a b)
    | _, _, _ => none
  | .alloc t => match P.info? t with
    | some i => match i.zero with
      | some z => if z.cells.all (·.oneCell') then some (.new t (z.cells.toList.map ofCell)) else none
      | none => none
    | none => none
  | .box t x => (compX x).map (.box t)
  | .build t parts => match P.info? t, P.underlying t with
    | some it, some (.struct fs) => match it.zero, fs.toList.mapM (fun f => (P.info? f.type).map fun i => (f.offset, i.size)) with
      | some z, some places => (compPlaces (places.toArray[·]?) parts.toList).map (.build (z.cells.toList.map ofCell))
      | _, _ => none
    | some it, some (.array _ e) => match it.zero, P.info? e with
      | some z, some ie => (compPlaces (fun i => some (i * ie.size, ie.size)) parts.toList).map (.build (z.cells.toList.map ofCell))
      | _, _ => none
    | _, _ => none
  | .buildSlice t len parts => match P.underlying t with
    | some (.slice e) => match P.info? e, compParts parts.toList with
      | some i, some ps => match i.zero with
        | some z => if len * i.size ≤ 65536 ∧ 0 < i.size ∧ z.cells.size = i.size ∧ z.cells.all (·.oneCell') then some (.bslice e i.size len (z.cells.toList.map ofCellR) ps) else none
        | none => none
      | _, _ => none
    | _ => none
  | .load t x => match P.underlying t, P.info? t, compX x with
    | some d, some i, some y => some (.load (isAggD d) i.size y)
    | _, _, _ => none
  | .store t x v => match P.info? t, compX x, compX v with
    | some i, some y, some z => some (.store i.size y z)
    | _, _, _ => none
  | .binOp op t x y _ => match P.underlying t, compX x, compX y with
    | some .bool, some a, some b => match op with
      | .eql => some (.eqb false a b)
      | .neq => some (.eqb true a b)
      | _ => none
    | some (.struct _), some a, some b => match op with
      | .eql => if P.eqGuardType P.depth t then none else some (.eqs false t a b)
      | .neq => if P.eqGuardType P.depth t then none else some (.eqs true t a b)
      | _ => none
    | some (.int _), some a, some b => some (.bin op t a b)
    | some .string, some a, some b => some (.bin op t a b)
    | _, _, _ => none
  | .unOp op _ x => (compX x).map (.un op)
  | .convert src dst x => match P.underlying src, P.underlying dst, compX x with
    | some (.int _), some (.int k), some y => some (.conv k y)
    | _, _, _ => none
  | .fieldAddr t x f => match P.underlying t, compX x with
    | some (.struct fs), some y => match fs[f]? with
      | some fd => match P.info? fd.type with
        | some i => if i.size = 0 then none else some (.fa fd.offset y)
        | none => none
      | none => none
    | _, _ => none
  | .indexAddr t x i => match P.underlying t, compX x, compX i with
    | some (.slice e), some y, some j => match P.info? e with
      | some inf => if inf.size = 0 then none else some (.ia inf.size y j)
      | none => none
    | _, _, _ => none
  | .call { callee := .builtin .len, args := args, argTypes := ts } => match args.toList, ts.toList with
    | [x], [t] => match P.underlying t, compX x with
      | some (.slice _), some y => some (.len y)
      | some .string, some y => some (.lens y)
      | _, _ => none
    | _, _ => none
  | .call { callee := .builtin .append, args := args, argTypes := ts } => match args.toList, ts.toList with
    | [x, y], [t, t'] => if t = t' then match P.underlying t, compX x, compX y with
      | some (.slice e), some a, some b => match P.info? e with
        | some i => match i.zero with
          | some z => if 0 < i.size ∧ z.cells.size = i.size ∧ 0 < i.bytes then some (.append e i.size i.bytes a b) else none
          | none => none
        | none => none
      | _, _, _ => none else none
    | _, _ => none
  | .call { callee := .value (.func f), args := args, .. } => match P.funcs[f]?, compXs args.toList with
    | some fn, some xs => if fn.body.isSome && fn.name != "runtime.NumGoroutine" then some (.call (flatRes P fn) f xs) else none
    | _, _ => none
  | .slice t x lo hi none => match P.underlying t, compX x, compOpt lo, compOpt hi with
    | some (.slice e), some y, some l, some h => match P.info? e with
      | some i => if i.size = 0 then none else some (.slice i.size y l h)
      | none => none
    | _, _, _, _ => none
  | .field t x f => match P.underlying t, compX x with
    | some (.struct fs), some y => match fs[f]? with
      | some fd => match P.info? fd.type, P.underlying fd.type with
        | some i, some d => some (.field (isAggD d) i.size fd.offset y)
        | _, _ => none
      | none => none
    | _, _ => none
  | .extract x i => (compX x).map (.extract · i)
  | _ => none

end Go.Am
