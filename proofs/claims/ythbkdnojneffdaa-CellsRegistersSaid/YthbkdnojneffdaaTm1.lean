/- The typed machine: data, their cells, typed values. -/
import Derived.Test.YthbkdnojneffdaaAmFn
namespace Go.Am

structure Val where
  n : Int
  flag : Bool
  text : ByteArray
  ref : Int
structure Cel where
  id : Int
  field : Int
  v : Val
structure Alt where
  stamp : Int
  v : Val
structure Slot where
  id : Int
  field : Int
  alts : List Alt
structure Spot where
  id : Int
  field : Int
structure Commit where
  stamp : Int
  parents : List Int
  picks : List Int
  note : ByteArray
  writes : List Cel
structure Mark where
  id : Int
  field : Int
  stamp : Int
structure Ctx where
  state : List Slot
  seen : List Int
structure Tri where
  a : Int
  b : Int
  c : Int

instance : Inhabited Val := ⟨⟨0, false, ⟨#[]⟩, 0⟩⟩
instance : Inhabited Cel := ⟨⟨0, 0, default⟩⟩

/-- The types of elements. -/
inductive Cd where
  | int | u8 | u64 | bool | str | val | cell | alt | slot | spot | commit | mark | state | ctx | tri | ints
  deriving DecidableEq

@[reducible] def El : Cd → Type
  | .int | .u8 | .u64 => Int
  | .bool => Bool
  | .str => ByteArray
  | .val => Val
  | .cell => Cel
  | .alt => Alt
  | .slot => Slot
  | .spot => Spot
  | .commit => Commit
  | .mark => Mark
  | .state => List Slot
  | .ctx => Ctx
  | .tri => Tri
  | .ints => List Int

/-- Typed values. -/
inductive TV where
  | int (k : IntKind) (n : Int)
  | b (x : Bool)
  | s (x : ByteArray)
  | v (x : Value)
  | shut
  | agg (cs : List TV)
  | tup (cs : List TV)
  | nils
  | vs (c : Cd) (l : List (El c))
  | ow (id : Nat)
  | own (id off len : Nat)
  | ptr (id off : Nat)
  | rptr (id i off : Nat)
  | eptr (c : Cd) (x : El c) (off : Nat)
  | opt (c : Cd) (o : Option (El c))
  | fn (f : FuncId)
  | und

inductive TObj where
  | blk (t : TypeId) (cs : List TV)
  | row (free : Bool) (t : TypeId) (c : Cd) (l : List (El c))
  | gone

abbrev TStore := List TObj

structure TS where
  fr : List TV
  st : TStore

/-- How many cells an element has. -/
def szC : Cd → Nat
  | .int | .u8 | .u64 | .bool | .str | .state | .ints => 1
  | .val => 4
  | .cell => 6
  | .alt => 5
  | .slot | .mark | .tri => 3
  | .spot => 2
  | .commit => 5
  | .ctx => 2

def Val.encA (v : Val) : List AV := [.v (.int .i64 v.n), .v (.bool v.flag), .v (.string v.text), .v (.int .i64 v.ref)]
def Cel.encA (c : Cel) : List AV := [.v (.int .i64 c.id), .v (.int .i64 c.field), .v (.int .i64 c.v.n), .v (.bool c.v.flag), .v (.string c.v.text), .v (.int .i64 c.v.ref)]
def Alt.encA (a : Alt) : List AV := [.v (.int .i64 a.stamp), .v (.int .i64 a.v.n), .v (.bool a.v.flag), .v (.string a.v.text), .v (.int .i64 a.v.ref)]
def intA (n : Int) : List AV := [.v (.int .i64 n)]
def Slot.encA (s : Slot) : List AV := [.v (.int .i64 s.id), .v (.int .i64 s.field), .vs (s.alts.map Alt.encA)]

/-- The cells of an element. -/
def encA : (c : Cd) → El c → List AV
  | .int, n => intA n
  | .u8, n => [.v (.int .u8 n)]
  | .u64, n => [.v (.int .u64 n)]
  | .bool, x => [.v (.bool x)]
  | .str, x => [.v (.string x)]
  | .val, v => v.encA
  | .cell, c => c.encA
  | .alt, a => a.encA
  | .slot, s => s.encA
  | .spot, s => [.v (.int .i64 s.id), .v (.int .i64 s.field)]
  | .commit, c => [.v (.int .i64 c.stamp), .vs (c.parents.map intA), .vs (c.picks.map intA), .v (.string c.note), .vs (c.writes.map Cel.encA)]
  | .mark, m => [.v (.int .i64 m.id), .v (.int .i64 m.field), .v (.int .i64 m.stamp)]
  | .state, l => [.vs (l.map Slot.encA)]
  | .ctx, x => [.vs (x.state.map Slot.encA), .vs (x.seen.map intA)]
  | .tri, m => [.v (.int .i64 m.a), .v (.int .i64 m.b), .v (.int .i64 m.c)]
  | .ints, l => [.vs (l.map intA)]

/-- The same, typed. -/
def enc : (c : Cd) → El c → List TV
  | .int, n => [.int .i64 n]
  | .u8, n => [.int .u8 n]
  | .u64, n => [.int .u64 n]
  | .bool, x => [.b x]
  | .str, x => [.s x]
  | .val, v => [.int .i64 v.n, .b v.flag, .s v.text, .int .i64 v.ref]
  | .cell, c => [.int .i64 c.id, .int .i64 c.field, .int .i64 c.v.n, .b c.v.flag, .s c.v.text, .int .i64 c.v.ref]
  | .alt, a => [.int .i64 a.stamp, .int .i64 a.v.n, .b a.v.flag, .s a.v.text, .int .i64 a.v.ref]
  | .slot, s => [.int .i64 s.id, .int .i64 s.field, .vs .alt s.alts]
  | .spot, s => [.int .i64 s.id, .int .i64 s.field]
  | .commit, c => [.int .i64 c.stamp, .vs .int c.parents, .vs .int c.picks, .s c.note, .vs .cell c.writes]
  | .mark, m => [.int .i64 m.id, .int .i64 m.field, .int .i64 m.stamp]
  | .state, l => [.vs .slot l]
  | .ctx, x => [.vs .slot x.state, .vs .int x.seen]
  | .tri, m => [.int .i64 m.a, .int .i64 m.b, .int .i64 m.c]
  | .ints, l => [.vs .int l]

/-- A list out of a slice. -/
def vsOf (c : Cd) : TV → Option (List (El c))
  | .vs c' l => if h : c' = c then some (h ▸ l) else none
  | .nils => some []
  | _ => none

def b2 {α β γ : Type} (x : Option α) (y : Option β) (f : α → β → γ) : Option γ :=
  match x with
  | some a => match y with
    | some b => some (f a b)
    | none => none
  | none => none

/-- An element out of its cells. -/
def dec : (c : Cd) → List TV → Option (El c)
  | .int, [.int .i64 n] => some n
  | .u8, [.int .u8 n] => some n
  | .u64, [.int .u64 n] => some n
  | .bool, [.b x] => some x
  | .str, [.s x] => some x
  | .val, [.int .i64 n, .b f, .s t, .int .i64 r] => some ⟨n, f, t, r⟩
  | .cell, [.int .i64 a, .int .i64 b, .int .i64 n, .b f, .s t, .int .i64 r] => some ⟨a, b, ⟨n, f, t, r⟩⟩
  | .alt, [.int .i64 a, .int .i64 n, .b f, .s t, .int .i64 r] => some ⟨a, ⟨n, f, t, r⟩⟩
  | .slot, [.int .i64 a, .int .i64 b, l] => (vsOf .alt l).map fun l => ⟨a, b, l⟩
  | .spot, [.int .i64 a, .int .i64 b] => some ⟨a, b⟩
  | .commit, [.int .i64 a, l1, l2, .s t, l3] => match vsOf .int l1, vsOf .int l2, vsOf .cell l3 with
    | some p, some q, some w => some ⟨a, p, q, t, w⟩
    | _, _, _ => none
  | .mark, [.int .i64 a, .int .i64 b, .int .i64 c] => some ⟨a, b, c⟩
  | .state, [l] => vsOf .slot l
  | .ctx, [l1, l2] => b2 (vsOf .slot l1) (vsOf .int l2) fun a b => ⟨a, b⟩
  | .tri, [.int .i64 a, .int .i64 b, .int .i64 c] => some ⟨a, b, c⟩
  | .ints, [l] => vsOf .int l
  | _, _ => none

/-- A nil pointer. -/
def nilP : Value := .pointer none

/-- Where the typed objects are among the abstract ones; none: a row without elements that is nil. -/
abbrev Rn := Nat → Option Nat

/-- A slice that is no more. -/
def stale (y : AV) : Prop := y = .nils ∨ ∃ j o n, y = .own j o n

mutual
/-- What a typed value is as an abstract one. -/
def UnV (ρ : Rn) (st : TStore) : TV → AV → Prop
  | .int k n, y => y = .v (.int k n)
  | .b x, y => y = .v (.bool x)
  | .s x, y => y = .v (.string x)
  | .v x, y => y = .v x
  | .shut, y => y = .v undef
  | .agg cs, y => ∃ ys, y = .agg ys ∧ UnL ρ st cs ys
  | .tup cs, y => ∃ ys, y = .tup ys ∧ UnL ρ st cs ys
  | .nils, y => y = .nils
  | .vs c l, y => y = .vs (l.map (encA c)) ∨ (l = [] ∧ y = .nils)
  | .ow i, y => match st[i]? with
    | some (.row _ _ _ l) => (match ρ i with | some j => y = .own j 0 l.length | none => y = .nils)
    | some _ => stale y
    | none => False
  | .own i o k, y => match st[i]? with
    | some (.row _ _ _ l) => o + k ≤ l.length ∧ (match ρ i with | some j => y = .own j o k | none => y = .nils)
    | some _ => stale y
    | none => False
  | .ptr i o, y => match st[i]? with
    | some (.blk _ _) => ∃ j, ρ i = some j ∧ y = .ptr j o
    | some _ => ∃ j, y = .ptr j o
    | none => False
  | .rptr i k o, y => match st[i]? with
    | some (.row _ _ _ _) => ∃ j, ρ i = some j ∧ y = .rptr j k o
    | some _ => ∃ j, y = .rptr j k o
    | none => False
  | .eptr c x o, y => y = .eptr [encA c x] 0 o
  | .opt c o, y => y = match o with | none => .v nilP | some x => .eptr [encA c x] 0 0
  | .fn f, y => y = .fn f []
  | .und, _ => True
def UnL (ρ : Rn) (st : TStore) : List TV → List AV → Prop
  | [], ys => ys = []
  | c :: r, ys => ∃ z zs, ys = z :: zs ∧ UnV ρ st c z ∧ UnL ρ st r zs
end

/-- What a typed object is. -/
def UnO (ρ : Rn) (st : TStore) (s : Store) (i : Nat) : TObj → Prop
  | .blk t cs => ∃ j ys, ρ i = some j ∧ s[j]? = some (.blk t ys) ∧ UnL ρ st cs ys
  | .row f t c l => match ρ i with
    | some j => ∃ f' es, s[j]? = some (.row f' t (szC c) (l.map (encA c) ++ es)) ∧ (f = true → f' = true)
    | none => l = []
  | .gone => True

structure UnSt (ρ : Rn) (st : TStore) (s : Store) : Prop where
  obj : ∀ (i : Nat) (o : TObj), st[i]? = some o → UnO ρ st s i o
  inj : ∀ (i k j : Nat) (o o' : TObj), st[i]? = some o → st[k]? = some o' → o ≠ .gone → o' ≠ .gone → ρ i = some j → ρ k = some j → i = k
  lt : ∀ (i j : Nat) (o : TObj), st[i]? = some o → o ≠ .gone → ρ i = some j → j < s.length

/-- What a typed state stands for. -/
def Sim (ts : TS) (s : AS) : Prop := ∃ ρ, UnL ρ ts.st ts.fr s.fr ∧ UnSt ρ ts.st s.st

end Go.Am
