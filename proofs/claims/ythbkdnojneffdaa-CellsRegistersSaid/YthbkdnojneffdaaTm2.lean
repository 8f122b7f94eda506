/- The typed machine: operations and code as functions. -/
import Derived.Test.YthbkdnojneffdaaTm1
namespace Go.Am

def getI {α : Type} (l : List α) (n : Int) : Option α := cond (decide (0 ≤ n)) l[n.toNat]? none

def getN {α : Type} (l : List α) (i : Nat) : Option α := l[i]?

/-- An option taken apart. -/
def opt? {α R : Type} (o : Option α) (f : R) (k : α → R) : R :=
  match o with
  | some x => k x
  | none => f

def TV.ofC : AV → TV
  | .v (.int k n) => .int k n
  | .v (.bool x) => .b x
  | .v (.string x) => .s x
  | .v x => .v x
  | .nils => .nils
  | _ => .und
def TV.ofA : AV → TV
  | .agg cs => .agg (cs.map TV.ofC)
  | .fn f [] => .fn f
  | x => TV.ofC x

def evT (fr : List TV) : Opd → TV
  | .t n => fr.getD n .shut
  | .c x => TV.ofA x

def TV.cells? : TV → Option (List TV)
  | .agg cs => some cs
  | .v (.agg _) | .v (.tuple _) | .tup _ | .und | .shut => none
  | x => some [x]
def TV.one : TV → Bool
  | .agg _ | .v (.agg _) | .v (.tuple _) | .tup _ | .und | .shut => false
  | _ => true

def spliceT (cs : List TV) (off : Nat) (new : List TV) : List TV := cs.take off ++ new ++ cs.drop (off + new.length)

def fillT (ev : Opd → TV) : List TV → List (Nat × Nat × Opd) → Option (List TV)
  | z, [] => some z
  | z, (off, sz, x) :: r =>
    match (ev x).cells? with
    | some cs => cond (Nat.beq cs.length sz && Nat.ble (off + sz) z.length) (fillT ev (spliceT z off cs) r) none
    | none => none

def getCellsT (agg : Bool) (sz : Nat) (cs : List TV) (off : Nat) : Option TV :=
  cond agg (cond (Nat.ble (off + sz) cs.length) (some (.agg ((cs.drop off).take sz))) none) cs[off]?

def castL (c c' : Cd) (l : List (El c)) : Option (List (El c')) := if h : c = c' then some (h ▸ l) else none

/-- What a slice holds. -/
def contentT (st : TStore) (c : Cd) : TV → Option (List (El c))
  | .vs c' l => castL c' c l
  | .nils => some []
  | .ow i => match st[i]? with
    | some (.row _ _ c' l) => castL c' c l
    | _ => none
  | .own i o n => match st[i]? with
    | some (.row _ _ c' l) => castL c' c ((l.drop o).take n)
    | _ => none
  | _ => none

/-- A cell that is kept in a row, or handed on. -/
def reC (st : TStore) : TV → Option TV
  | .int k n => some (.int k n)
  | .b x => some (.b x)
  | .s x => some (.s x)
  | .vs c l => some (.vs c l)
  | .nils => some .nils
  | .ow i => match st[i]? with
    | some (.row _ _ c l) => some (.vs c l)
    | _ => none
  | .own i o n => match st[i]? with
    | some (.row _ _ c l) => some (.vs c ((l.drop o).take n))
    | _ => none
  | _ => none
def reL (st : TStore) : List TV → Option (List TV)
  | [] => some []
  | c :: r => match reC st c with
    | some x => match reL st r with
      | some xs => some (x :: xs)
      | none => none
    | none => none

def idT : TV → List Nat
  | .ow i => [i]
  | .own i _ _ => [i]
  | _ => []
def TV.ids : TV → List Nat
  | .agg cs => cs.flatMap idT
  | x => idT x

def TObj.freeze : TObj → TObj
  | .row _ t c l => .row false t c l
  | o => o
def freezeT (ids : List Nat) (st : TStore) : TStore :=
  match ids with
  | [] => st
  | _ => st.mapIdx fun i o => cond (ids.contains i) o.freeze o

/-- The elements of a slice literal, from the i-th on. -/
def partsT (ev : Opd → TV) (st : TStore) (c : Cd) : Nat → List (Nat × Opd) → Option (List (El c) × List Nat)
  | _, [] => some ([], [])
  | i, (j, x) :: r => cond (Nat.beq i j) (match (ev x).cells? with
    | some cs => match reL st cs with
      | some ds => match dec c ds with
        | some e => match partsT ev st c (i + 1) r with
          | some p => some (e :: p.1, cs.flatMap idT ++ p.2)
          | none => none
        | none => none
      | none => none
    | none => none) none

def kEq (k k' : IntKind) : Bool := decide (k = k')

def ibin {R : Type} (op : BinOp) (k k' : IntKind) (a b : Int) (f : R) (g : TV → R) : R :=
  match op with
  | .shl => cond (decide (b < 0)) f (g (.int k (k.wrap (a * 2 ^ min b.toNat k.bits))))
  | .shr => cond (decide (b < 0)) f (g (.int k (a.fdiv (2 ^ min b.toNat k.bits))))
  | .add => cond (kEq k k') (g (.int k (k.wrap (a + b)))) f
  | .sub => cond (kEq k k') (g (.int k (k.wrap (a - b)))) f
  | .mul => cond (kEq k k') (g (.int k (k.wrap (a * b)))) f
  | .quo => cond (kEq k k') (cond (decide (b = 0)) f (g (.int k (k.wrap (a.tdiv b))))) f
  | .rem => cond (kEq k k') (cond (decide (b = 0)) f (g (.int k (a.tmod b)))) f
  | .and => cond (kEq k k') (g (.int k (k.wrap ((BitVec.ofInt k.bits a &&& BitVec.ofInt k.bits b).toNat : Int)))) f
  | .or => cond (kEq k k') (g (.int k (k.wrap ((BitVec.ofInt k.bits a ||| BitVec.ofInt k.bits b).toNat : Int)))) f
  | .lss => cond (kEq k k') (g (.b (decide (a < b)))) f
  | .leq => cond (kEq k k') (g (.b (decide (a ≤ b)))) f
  | .gtr => cond (kEq k k') (g (.b (decide (b < a)))) f
  | .geq => cond (kEq k k') (g (.b (decide (b ≤ a)))) f
  | .eql => cond (kEq k k') (g (.b (a == b))) f
  | .neq => cond (kEq k k') (g (.b (a != b))) f
  | _ => f

def sbin {R : Type} (op : BinOp) (a b : ByteArray) (f : R) (g : TV → R) : R :=
  match op with
  | .add => cond (decide (((a.size + b.size : Nat) : Int) > 9223372036854775807)) f (g (.s (a ++ b)))
  | .eql => g (.b (a.toList == b.toList))
  | .neq => g (.b (!(a.toList == b.toList)))
  | .lss => g (.b (Op.bytesLess a.toList b.toList))
  | .leq => g (.b (Op.bytesLess a.toList b.toList || a.toList == b.toList))
  | .gtr => g (.b (!(Op.bytesLess a.toList b.toList || a.toList == b.toList)))
  | .geq => g (.b (!Op.bytesLess a.toList b.toList))
  | _ => f

/-- The kinds of the cells of structs that are compared. -/
inductive Kd where
  | int (k : IntKind) | b | s
  deriving DecidableEq
def eqT : List Kd → List TV → List TV → Option Bool
  | [], [], [] => some true
  | .int k :: ks, .int k1 a :: r, .int k2 b :: r' => cond (kEq k1 k && kEq k2 k) (match eqT ks r r' with | some q => some (a == b && q) | none => none) none
  | .b :: ks, .b a :: r, .b b :: r' => match eqT ks r r' with | some q => some (a == b && q) | none => none
  | .s :: ks, .s a :: r, .s b :: r' => match eqT ks r r' with | some q => some (a == b && q) | none => none
  | _, _, _ => none

/-- Types of parameters. -/
inductive PT where
  | int (k : IntKind) | b | s | st (c : Cd) | sl (c : Cd) | fn (f : FuncId)
@[reducible] def PT.den : PT → Type
  | .int _ => Int
  | .b => Bool
  | .s => ByteArray
  | .st c => El c
  | .sl c => List (El c)
  | .fn _ => Unit
@[reducible] def dens : List PT → Type
  | [] => Unit
  | p :: r => p.den × dens r
inductive RT where
  | one (p : PT)
  | fresh (t : TypeId) (c : Cd)
  | tup (ps : List PT)
@[reducible] def RT.den : RT → Type
  | .one p => p.den
  | .fresh _ c => List (El c)
  | .tup ps => dens ps

def decP (st : TStore) : (p : PT) → TV → Option p.den
  | .int k, .int k' n => cond (kEq k' k) (some n) none
  | .b, .b x => some x
  | .s, .s x => some x
  | .st c, .agg cs => match reL st cs with
    | some ds => dec c ds
    | none => none
  | .sl c, x => contentT st c x
  | .fn f, .fn g => cond (Nat.beq f g) (some ()) none
  | _, _ => none
def decPs (st : TStore) : (ps : List PT) → List TV → Option (dens ps)
  | [], [] => some ()
  | p :: ps, x :: xs => match decP st p x with
    | some a => match decPs st ps xs with
      | some as => some (a, as)
      | none => none
    | none => none
  | _, _ => none

def encT : (p : PT) → p.den → TV
  | .int k, n => .int k n
  | .b, x => .b x
  | .s, x => .s x
  | .st c, x => .agg (enc c x)
  | .sl c, l => .vs c l
  | .fn f, _ => .fn f
def encTs : (ps : List PT) → dens ps → List TV
  | [], _ => []
  | p :: ps, (a, as) => encT p a :: encTs ps as

def flatC : Cd → Bool
  | .slot | .commit | .state | .ctx | .ints => false
  | _ => true
def PT.flat : PT → Bool
  | .st c => flatC c
  | .sl _ => false
  | _ => true

structure FSpec where
  ps : List PT
  rt : RT
  pre : dens ps → Bool
  fn : dens ps → rt.den

structure Env where
  fn : FuncId → Option FSpec
  cd : TypeId → Option Cd
  eq : TypeId → Option (List Kd)

def frzIf (b : Bool) (xs : List TV) (st : TStore) : TStore := cond b st (freezeT (xs.flatMap TV.ids) st)

/-- What a call leaves; 'v': whether the results must have no pointers. -/
def resT {R : Type} (v : Bool) (xs : List TV) (st : TStore) (f : R) (k : TV → TStore → R) : (rt : RT) → rt.den → R
  | .one p, x => cond (!v || p.flat) (k (encT p x) (frzIf p.flat xs st)) f
  | .fresh t c, l => cond v f (k (.ow st.length) (frzIf (flatC c) xs st ++ [.row true t c l]))
  | .tup ps, x => cond (!v || ps.all PT.flat) (k (.tup (encTs ps x)) (frzIf (ps.all PT.flat) xs st)) f

def callT {R : Type} (E : Env) (v : Bool) (g : FuncId) (xs : List TV) (st : TStore) (f : R) (k : TV → TStore → R) : R :=
  match E.fn g with
  | none => f
  | some sp => opt? (decPs st sp.ps xs) f fun a => cond (sp.pre a) (resT v xs st f k sp.rt (sp.fn a)) f

def optN {R : Type} (ev : Opd → TV) (x : Option Opd) (f : R) (k : Option Int → R) : R :=
  match x with
  | none => k none
  | some y => match ev y with
    | .int _ n => k (some n)
    | _ => f

/-- A slice of a slice. -/
def sliceT {R : Type} (sz : Nat) (x : TV) (st : TStore) (lo hi : Option Int) (f : R) (k : TV → R) : R :=
  match x with
  | .vs c l => cond (Nat.beq (szC c) sz) (match lo, hi with
    | none, none => k (.vs c l)
    | some a, none => cond (decide (0 ≤ a) && decide (a ≤ l.length)) (k (.vs c (l.drop a.toNat))) f
    | none, some b => cond (decide (0 ≤ b) && decide (b ≤ l.length)) (k (.vs c (l.take b.toNat))) f
    | some a, some b => cond (decide (0 ≤ a) && (decide (a ≤ b) && decide (b ≤ l.length))) (k (.vs c ((l.take b.toNat).drop a.toNat))) f) f
  | .ow i => match st[i]? with
    | some (.row _ _ c l) => cond (Nat.beq (szC c) sz) (match lo, hi with
      | none, none => k (.ow i)
      | none, some b => cond (decide (0 ≤ b) && decide (b ≤ l.length)) (k (.own i 0 b.toNat)) f
      | _, _ => f) f
    | _ => f
  | _ => f

def tsem {R : Type} (E : Env) (op : AOp) (ev : Opd → TV) (st : TStore) (f : R) (k : TV → TStore → R) : R :=
  match op with
  | .mov x => k (ev x) st
  | .pick c a b => match ev c with
    | .b t => cond t (k (ev a) st) (k (ev b) st)
    | _ => f
  | .new t z => k (.ptr st.length 0) (st ++ [.blk t (z.map TV.ofC)])
  | .box t x => opt? (ev x).cells? f fun cs => k (.ptr st.length 0) (st ++ [.blk t cs])
  | .build z parts => opt? (fillT ev (z.map TV.ofC) parts) f fun cs => k (.agg cs) st
  | .bslice t sz len _ parts => match E.cd t with
    | some c => cond (Nat.beq (szC c) sz && Nat.beq parts.length len) (opt? (partsT ev st c 0 parts) f fun p => k (.ow st.length) (freezeT p.2 st ++ [.row true t c p.1])) f
    | none => f
  | .load agg sz x => match ev x with
    | .ptr id off => match st[id]? with
      | some (.blk _ cs) => opt? (getCellsT agg sz cs off) f fun v => k v st
      | _ => f
    | .rptr id i off => match st[id]? with
      | some (.row _ _ c l) => opt? (getN l i) f fun e => opt? (getCellsT agg sz (enc c e) off) f fun v => k v st
      | _ => f
    | .eptr c e off => opt? (getCellsT agg sz (enc c e) off) f fun v => k v st
    | .opt c o => opt? o f fun e => opt? (getCellsT agg sz (enc c e) 0) f fun v => k v st
    | _ => f
  | .store sz x y => match ev x with
    | .ptr id off => match st[id]? with
      | some (.blk t cs) => opt? (ev y).cells? f fun new => cond (Nat.beq new.length sz && Nat.ble (off + sz) cs.length && new.all TV.one) (k .shut (st.set id (.blk t (spliceT cs off new)))) f
      | _ => f
    | _ => f
  | .bin op _ x y => match ev x with
    | .int k1 a => match ev y with
      | .int k2 b => ibin op k1 k2 a b f fun v => k v st
      | _ => f
    | .s a => match ev y with
      | .s b => sbin op a b f fun v => k v st
      | _ => f
    | _ => f
  | .eqb neg x y => match ev x with
    | .b a => match ev y with
      | .b b => k (.b (cond neg (a != b) (a == b))) st
      | _ => f
    | _ => f
  | .eqs neg t x y => match ev x with
    | .agg cs => match ev y with
      | .agg ds => match E.eq t with
        | some ks => opt? (eqT ks cs ds) f fun q => k (.b (cond neg (!q) q)) st
        | none => f
      | _ => f
    | _ => f
  | .un op x => match op, ev x with
    | .not, .b a => k (.b (!a)) st
    | _, _ => f
  | .conv kd x => match ev x with
    | .int _ n => k (.int kd (kd.wrap n)) st
    | _ => f
  | .fa off x => match ev x with
    | .ptr id o => k (.ptr id (o + off)) st
    | .rptr id i o => k (.rptr id i (o + off)) st
    | .eptr c e o => k (.eptr c e (o + off)) st
    | .opt c o => opt? o f fun e => k (.eptr c e off) st
    | _ => f
  | .ia sz x i => match ev i with
    | .int _ n => match ev x with
      | .vs c l => cond (Nat.beq (szC c) sz) (opt? (getI l n) f fun e => k (.eptr c e 0) st) f
      | .ow id => match st[id]? with
        | some (.row _ _ c l) => cond (Nat.beq (szC c) sz) (opt? (getI l n) f fun _ => k (.rptr id n.toNat 0) st) f
        | _ => f
      | _ => f
    | _ => f
  | .len x => match ev x with
    | .vs _ l => k (.int .i64 l.length) st
    | .ow i => match st[i]? with
      | some (.row _ _ _ l) => k (.int .i64 l.length) st
      | _ => f
    | .own i _ n => match st[i]? with
      | some (.row _ _ _ _) => k (.int .i64 n) st
      | _ => f
    | .nils => k (.int .i64 0) st
    | _ => f
  | .lens x => match ev x with
    | .s b => k (.int .i64 b.size) st
    | _ => f
  | .slice sz x lo hi => optN ev lo f fun a => optN ev hi f fun b => sliceT sz (ev x) st a b f fun v => k v st
  | .append t sz bytes x y => match E.cd t with
    | none => f
    | some c => cond (Nat.beq (szC c) sz && Nat.ble 1 bytes) (opt? (contentT st c (ev y)) f fun l => match ev x with
      | .nils => match l with
        | [] => k .nils st
        | a :: r => cond (decide ((a :: r).length * bytes ≤ maxRow)) (k (.ow st.length) (st ++ [.row true t c (a :: r)])) f
      | .ow id => match st[id]? with
        | some (.row true t' c' old) => opt? (castL c' c old) f fun old => cond (Nat.beq t' t) (match l with
          | [] => k (.ow id) st
          | a :: r => cond (decide ((old.length + (a :: r).length) * bytes ≤ maxRow)) (k (.ow st.length) (st.set id .gone ++ [.row true t c (old ++ a :: r)])) f) f
        | _ => f
      | .own id 0 n => match st[id]? with
        | some (.row true t' c' old) => opt? (castL c' c old) f fun old => cond (Nat.beq t' t) (match l with
          | [] => k (.own id 0 n) st
          | a :: r => cond (decide ((n + (a :: r).length) * bytes ≤ maxRow)) (k (.ow st.length) (st.set id .gone ++ [.row true t c (old.take n ++ a :: r)])) f) f
        | _ => f
      | _ => f) f
  | .field agg sz off x => match ev x with
    | .agg cs => opt? (getCellsT agg sz cs off) f fun v => k v st
    | _ => f
  | .extract x i => match ev x with
    | .tup cs => opt? cs[i]? f fun v => k v st
    | _ => f
  | .call v g xs => callT E v g (xs.map ev) st f k

/-! ### Regions -/

def setD (fr : List TV) (d : Option Nat) (x : TV) : List TV :=
  match d with
  | some d => fr.set d x
  | none => fr

/-- One operation. -/
def operT {R : Type} (E : Env) (o : AOper) (s : TS) (f : R) (k : TS → R) : R :=
  match o.guard with
  | none => tsem E o.op (evT s.fr) s.st f fun x st => k ⟨setD s.fr o.dst x, st⟩
  | some (d, want) => match s.fr.getD d .shut with
    | .b t => cond t
        (cond want (tsem E o.op (evT (s.fr.set d (.b true))) s.st f fun x st => k ⟨setD (s.fr.set d (.b true)) o.dst x, st⟩) (k ⟨setD (s.fr.set d (.b true)) o.dst .shut, s.st⟩))
        (cond want (k ⟨setD (s.fr.set d (.b false)) o.dst .shut, s.st⟩) (tsem E o.op (evT (s.fr.set d (.b false))) s.st f fun x st => k ⟨setD (s.fr.set d (.b false)) o.dst x, st⟩))
    | .shut => k ⟨setD s.fr o.dst .shut, s.st⟩
    | _ => f

def opsT {R : Type} (E : Env) : List AOper → TS → R → (TS → R) → R
  | [], s, _, k => k s
  | o :: r, s, f, k => operT E o s f fun s' => opsT E r s' f k

/-! ### Shapes -/

inductive STy where
  | und | int (k : IntKind) | b | s | agg (c : Cd) | vs (c : Cd) | ow (i : Nat) | ptr (i o : Nat) | opt (c : Cd) | fn (f : FuncId)
inductive OTy where
  | blk (t : TypeId) (cs : List STy)
  | row (free : Bool) (t : TypeId) (c : Cd)
structure Shape where
  fr : List STy
  st : List OTy

@[reducible] def denF : List STy → Type
  | [] => Unit
  | .int _ :: r => Int × denF r
  | .b :: r => Bool × denF r
  | .s :: r => ByteArray × denF r
  | .agg c :: r => El c × denF r
  | .vs c :: r => List (El c) × denF r
  | .opt c :: r => Option (El c) × denF r
  | .und :: r | .ow _ :: r | .ptr _ _ :: r | .fn _ :: r => denF r
@[reducible] def denO : List OTy → Type
  | [] => Unit
  | .blk _ cs :: r => denF cs × denO r
  | .row _ _ c :: r => List (El c) × denO r
@[reducible] def Shape.den (d : Shape) : Type := denF d.fr × denO d.st

def shF : (d : List STy) → denF d → List TV
  | [], _ => []
  | .int k :: r, x => .int k x.1 :: shF r x.2
  | .b :: r, x => .b x.1 :: shF r x.2
  | .s :: r, x => .s x.1 :: shF r x.2
  | .agg c :: r, x => .agg (enc c x.1) :: shF r x.2
  | .vs c :: r, x => .vs c x.1 :: shF r x.2
  | .opt c :: r, x => .opt c x.1 :: shF r x.2
  | .und :: r, x => .und :: shF r x
  | .ow i :: r, x => .ow i :: shF r x
  | .ptr i o :: r, x => .ptr i o :: shF r x
  | .fn g :: r, x => .fn g :: shF r x
def shO : (d : List OTy) → denO d → TStore
  | [], _ => []
  | .blk t cs :: r, x => .blk t (shF cs x.1) :: shO r x.2
  | .row f t c :: r, x => .row f t c x.1 :: shO r x.2
def sh (d : Shape) (x : d.den) : TS := ⟨shF d.fr x.1, shO d.st x.2⟩

/-- Which object a shape's object is: none as yet; a nil slice; one of the state. -/
inductive Wh where
  | no | nil | is (i : Nat) | cut (i n : Nat)
def Wh.same : Wh → Wh → Bool
  | .nil, .nil => true
  | .is i, .is j => Nat.beq i j
  | _, _ => false
def asg (m : List Wh) (i : Nat) (w : Wh) : Option (List Wh) :=
  match m[i]? with
  | some .no => some (m.set i w)
  | some w' => cond (w'.same w) (some m) none
  | none => none
/-- What the slots say. -/
def asgF : List STy → List TV → List Wh → Option (List Wh)
  | [], [], m => some m
  | .ow i :: r, .ow j :: xs, m => match asg m i (.is j) with | some m => asgF r xs m | none => none
  | .ow i :: r, .own j 0 n :: xs, m => match asg m i (.cut j n) with | some m => asgF r xs m | none => none
  | .ow i :: r, .nils :: xs, m => match asg m i .nil with | some m => asgF r xs m | none => none
  | .ow _ :: _, _ :: _, _ => none
  | .ptr i o :: r, .ptr j o' :: xs, m => cond (Nat.beq o o') (match asg m i (.is j) with | some m => asgF r xs m | none => none) none
  | .ptr _ _ :: _, _ :: _, _ => none
  | _ :: r, _ :: xs, m => asgF r xs m
  | _, _, _ => none
def asgO (st : TStore) : Nat → List OTy → List Wh → Option (List Wh)
  | _, [], m => some m
  | i, .blk _ cs :: r, m => match m[i]? with
    | some (.is j) => match st[j]? with
      | some (.blk _ xs) => match asgF cs xs m with | some m => asgO st (i + 1) r m | none => none
      | _ => none
    | _ => none
  | i, .row .. :: r, m => asgO st (i + 1) r m

def castO (c c' : Cd) (o : Option (El c)) : Option (Option (El c')) := if h : c = c' then some (h ▸ o) else none
def optOf (c : Cd) : TV → Option (Option (El c))
  | .opt c' o => castO c' c o
  | .eptr c' x 0 => castO c' c (some x)
  | .v (.pointer none) => some none
  | _ => none

def unF (st : TStore) : (d : List STy) → List TV → Option (denF d)
  | [], [] => some ()
  | .int k :: r, .int k' n :: xs => cond (kEq k k') (match unF st r xs with | some y => some (n, y) | none => none) none
  | .b :: r, .b x :: xs => match unF st r xs with | some y => some (x, y) | none => none
  | .s :: r, .s x :: xs => match unF st r xs with | some y => some (x, y) | none => none
  | .agg c :: r, .agg cs :: xs => match dec c cs with
    | some a => match unF st r xs with | some y => some (a, y) | none => none
    | none => none
  | .vs c :: r, .vs c' l :: xs => match castL c' c l with
    | some a => match unF st r xs with | some y => some (a, y) | none => none
    | none => none
  | .vs _ :: r, .nils :: xs => match unF st r xs with | some y => some ([], y) | none => none
  | .opt c :: r, x :: xs => match optOf c x with
    | some a => match unF st r xs with | some y => some (a, y) | none => none
    | none => none
  | .und :: r, _ :: xs => unF st r xs
  | .ow _ :: r, _ :: xs => unF st r xs
  | .ptr _ _ :: r, _ :: xs => unF st r xs
  | .fn g :: r, .fn g' :: xs => cond (Nat.beq g g') (unF st r xs) none
  | _, _ => none
def unO (st : TStore) : (d : List OTy) → List Wh → Option (denO d)
  | [], [] => some ()
  | .blk t cs :: r, .is j :: m => match st[j]? with
    | some (.blk t' xs) => cond (Nat.beq t t') (match unF st cs xs with
      | some a => match unO st r m with | some y => some (a, y) | none => none
      | none => none) none
    | _ => none
  | .row f t c :: r, .is j :: m => match st[j]? with
    | some (.row f' t' c' l) => cond (Nat.beq t t' && f == f') (match castL c' c l with
      | some a => match unO st r m with | some y => some (a, y) | none => none
      | none => none) none
    | _ => none
  | .row f t c :: r, .cut j n :: m => match st[j]? with
    | some (.row f' t' c' l) => cond (Nat.beq t t' && f == f') (match castL c' c l with
      | some a => match unO st r m with | some y => some (a.take n, y) | none => none
      | none => none) none
    | _ => none
  | .row true _ _ :: r, .nil :: m => match unO st r m with | some y => some ([], y) | none => none
  | _, _ => none
def whIds : List Wh → List Nat
  | [] => []
  | .is i :: r => i :: whIds r
  | .cut i _ :: r => i :: whIds r
  | _ :: r => whIds r
def nodupB : List Nat → Bool
  | [] => true
  | a :: r => !r.contains a && nodupB r
def whAll (d : Shape) (s : TS) : Option (List Wh) :=
  match asgF d.fr s.fr (List.replicate d.st.length .no) with
  | some m => match asgO s.st 0 d.st m with
    | some m => cond (nodupB (whIds m)) (some m) none
    | none => none
  | none => none
def unsh (d : Shape) (s : TS) : Option d.den :=
  match whAll d s with
  | some m => match unF s.st d.fr s.fr with
    | some a => match unO s.st d.st m with
      | some b => some (a, b)
      | none => none
    | none => none
  | none => none

/-! ### Code -/

inductive TCode where
  | skip
  | reg (draw : Bool) (ops : List AOper)
  | seq (a b : TCode)
  | cond (c : Opd) (a b : TCode)
  | block (id : Nat) (a : TCode)
  | loop (d e : Shape) (a : TCode)
  | unroll (n : Nat) (a : TCode)
  | join (d : Shape) (a : TCode)
  | exit (id : Nat)
  | ret

def TCode.erase : TCode → ACode
  | .skip => .skip
  | .reg d ops => .reg d ops
  | .seq a b => .seq a.erase b.erase
  | .cond c a b => .cond c a.erase b.erase
  | .block id a => .block id a.erase
  | .loop _ _ a => .loop a.erase
  | .unroll _ a => .loop a.erase
  | .join _ a => a.erase
  | .exit id => .exit id
  | .ret => .ret

/-- A round of a loop. -/
inductive Stp (τ o : Type) where
  | next (t : τ)
  | done (x : o)
  | fail
inductive LO (ε ρ : Type) where
  | exit (id : Nat) (u : ε)
  | ret (v : ρ)
inductive JO (τ ρ : Type) where
  | norm (t : τ)
  | exit (id : Nat) (t : τ)
  | ret (v : ρ)
  | fail

def iterN {τ o : Type} (b : τ → Stp τ o) : Nat → τ → Option o
  | 0, _ => none
  | n + 1, t => match b t with
    | .next t' => iterN b n t'
    | .done x => some x
    | .fail => none

/-- What rounds come to, if they end. -/
noncomputable def iter {τ o : Type} (b : τ → Stp τ o) (t : τ) : Option o :=
  open Classical in if h : ∃ n x, iterN b n t = some x then some h.choose_spec.choose else none

abbrev It := {τ o : Type} → (τ → Stp τ o) → τ → Option o

def rvT (s : TS) : RV → Option TV
  | .tmp t => some (s.fr.getD t .shut)
  | .cell t agg sz => match s.fr.getD t .shut with
    | .ptr id off => match s.st[id]? with
      | some (.blk _ cs) => getCellsT agg sz cs off
      | _ => none
    | _ => none
def rvsT (s : TS) : List RV → Option (List TV)
  | [] => some []
  | x :: r => match rvT s x with
    | some y => match rvsT s r with
      | some ys => some (y :: ys)
      | none => none
    | none => none
/-- A new slice that is returned. -/
def freshT (st : TStore) (t : TypeId) (c : Cd) : TV → Option (List (El c))
  | .nils => some []
  | .ow i => match st[i]? with
    | some (.row true t' c' l) => cond (Nat.beq t t') (castL c' c l) none
    | _ => none
  | _ => none
def retT (rs : List RV) (s : TS) : (rt : RT) → Option rt.den
  | .one p => match rs with
    | [x] => match rvT s x with | some v => decP s.st p v | none => none
    | _ => none
  | .fresh t c => match rs with
    | [x] => match rvT s x with | some v => freshT s.st t c v | none => none
    | _ => none
  | .tup ps => match rs with
    | [_] => none
    | rs => match rvsT s rs with | some vs => decPs s.st ps vs | none => none

def unrollN {R : Type} : Nat → ((TS → R) → TS → R) → R → TS → R
  | 0, _, f, _ => f
  | n + 1, b, f, s => b (unrollN n b f) s

def litS (s : TS) (x : Opd) (v : Bool) : TS :=
  match x with
  | .t n => ⟨s.fr.set n (.b v), s.st⟩
  | .c _ => s

def exec (it : It) (E : Env) (rt : RT) (rs : List RV) : TCode → (R : Type) → (TS → R) → (Nat → TS → R) → (rt.den → R) → R → TS → R
  | .skip, _, kn, _, _, _, s => kn s
  | .reg _ ops, _, kn, _, _, f, s => opsT E ops s f kn
  | .seq a b, R, kn, ke, kr, f, s => exec it E rt rs a R (exec it E rt rs b R kn ke kr f) ke kr f s
  | .cond c a b, R, kn, ke, kr, f, s => match evT s.fr c with
    | .b t => _root_.cond t (exec it E rt rs a R kn ke kr f (litS s c true)) (exec it E rt rs b R kn ke kr f (litS s c false))
    | _ => f
  | .block id a, R, kn, ke, kr, f, s => exec it E rt rs a R kn (fun j s => _root_.cond (Nat.beq j id) (kn s) (ke j s)) kr f s
  | .loop d e a, _, _, ke, kr, f, s => opt? (unsh d s) f fun t =>
      opt? (it (o := LO e.den rt.den) (fun t => exec it E rt rs a (Stp d.den (LO e.den rt.den)) (fun s => opt? (unsh d s) .fail .next) (fun j s => opt? (unsh e s) .fail fun u => .done (.exit j u)) (fun v => .done (.ret v)) .fail (sh d t)) t) f fun o =>
        match o with
        | .exit j u => ke j (sh e u)
        | .ret v => kr v
  | .unroll n a, R, _, ke, kr, f, s => unrollN n (fun kn s => exec it E rt rs a R kn ke kr f s) f s
  | .join d a, _, kn, ke, kr, f, s =>
      match exec it E rt rs a (JO d.den rt.den) (fun s => opt? (unsh d s) .fail .norm) (fun j s => opt? (unsh d s) .fail (.exit j)) (fun v => .ret v) .fail s with
      | .norm t => kn (sh d t)
      | .exit j t => ke j (sh d t)
      | .ret v => kr v
      | .fail => f
  | .exit id, _, _, ke, _, _, s => ke id s
  | .ret, _, _, _, kr, f, s => opt? (retT rs s rt) f kr

/-- A function, typed. -/
structure TFn where
  body : TCode
  res : List RV
  n : Nat

def TFn.start (g : TFn) (args : List TV) : TS := ⟨args ++ List.replicate (g.n - args.length) .shut, []⟩

/-- What a function returns. -/
def TFn.run (it : It) (E : Env) (g : TFn) (ps : List PT) (rt : RT) (xs : dens ps) : Option rt.den :=
  exec it E rt g.res g.body (Option rt.den) (fun s => retT g.res s rt) (fun _ _ => none) some none (g.start (encTs ps xs))

end Go.Am
