/- Cells as plain data, and as the abstract machine has them. -/
import Derived.Test.YthbkdnojneffdaaAmList
namespace Go.Am

structure Val where
  n : Int
  flag : Bool
  text : ByteArray
  ref : Int

structure Cel where
  id : Int
  field : Int
  v : Val

def Val.enc (x : Val) : List AV := [.v (.int .i64 x.n), .v (.bool x.flag), .v (.string x.text), .v (.int .i64 x.ref)]
def Cel.enc (c : Cel) : List AV := [.v (.int .i64 c.id), .v (.int .i64 c.field), .v (.int .i64 c.v.n), .v (.bool c.v.flag), .v (.string c.v.text), .v (.int .i64 c.v.ref)]
def Val.beq (a b : Val) : Bool := a.n == b.n && (a.flag == b.flag && (a.text == b.text && (a.ref == b.ref && true)))
theorem Val.beq_def (a b : Val) : a.beq b = (a.n == b.n && (a.flag == b.flag && (a.text == b.text && (a.ref == b.ref && true)))) := rfl
def Cel.beq (a b : Cel) : Bool := a.id == b.id && (a.field == b.field && (a.v.beq b.v && true))
theorem Cel.beq_def (a b : Cel) : a.beq b = (a.id == b.id && (a.field == b.field && (a.v.beq b.v && true))) := rfl
def Val.zero : Val := ⟨0, false, ⟨#[]⟩, 0⟩
theorem ba_beq (a b : ByteArray) : (a == b) = true ↔ a = b := by
  obtain ⟨x⟩ := a
  obtain ⟨y⟩ := b
  show (x == y) = true ↔ _
  simp
theorem Val.beq_iff (a b : Val) : a.beq b = true ↔ a = b := by
  obtain ⟨a1, a2, a3, a4⟩ := a
  obtain ⟨b1, b2, b3, b4⟩ := b
  simp [Val.beq, ba_beq]
theorem Cel.beq_iff (a b : Cel) : a.beq b = true ↔ a = b := by
  obtain ⟨a1, a2, a3⟩ := a
  obtain ⟨b1, b2, b3⟩ := b
  simp [Cel.beq, Val.beq_iff]
def encL (l : List Cel) : AV := .vs (l.map Cel.enc)

/-- Which numbers are ids. -/
def idOk (a : Int) : Bool := decide (1048576 < a) && decide (a < 34603008) && (a % 1048576 != 0)

def cmpI (a b : Int) : Int := if a < b then -1 else if b < a then 1 else 0
def cmpC (a b : Cel) : Int := if cmpI a.id b.id != 0 then cmpI a.id b.id else cmpI a.field b.field
/-- The order of registers. -/
def lt (a b : Cel) : Bool := decide (a.id < b.id) || (decide (a.id = b.id) && decide (a.field < b.field))

theorem cmpI_cases (a b : Int) : (a < b ∧ cmpI a b = -1) ∨ (b < a ∧ cmpI a b = 1) ∨ (a = b ∧ cmpI a b = 0) := by
  unfold cmpI
  by_cases h1 : a < b
  · simp [h1]
  · by_cases h2 : b < a
    · simp [h1, h2]
    · simp [h1, h2]; omega

/-- A cell that may be written. -/
def okC (c : Cel) : Bool := idOk c.id && decide (1 ≤ c.field) && decide (c.field < 48)
def wOk : Option Cel → List Cel → Bool
  | _, [] => true
  | p, c :: r => okC c && (match p with | none => true | some q => lt q c) && wOk (some c) r
/-- Which lists are writes. -/
def writesB (l : List Cel) : Bool := wOk none l
def prevOf (l : List Cel) (k : Nat) : Option Cel := if k = 0 then none else l[k - 1]?

theorem wOk_at {l : List Cel} {k : Nat} {c : Cel} (h : l[k]? = some c) : wOk (prevOf l k) (l.drop k) = (okC c && (match prevOf l k with | none => true | some q => lt q c) && wOk (prevOf l (k + 1)) (l.drop (k + 1))) := by
  have hlt : k < l.length := (List.getElem?_eq_some_iff.1 h).1
  have e : l.drop k = c :: l.drop (k + 1) := by
    rw [List.drop_eq_getElem_cons hlt, (List.getElem?_eq_some_iff.1 h).2]
  have e2 : prevOf l (k + 1) = some c := by simp [prevOf, h]
  rw [e, e2]
  rfl

theorem lt_cmp (a b : Cel) : decide (0 ≤ cmpC a b) = !lt a b := by
  unfold cmpC lt
  rcases cmpI_cases a.id b.id with ⟨h, e⟩ | ⟨h, e⟩ | ⟨h, e⟩
  · rw [e]; simp [h]
  · rw [e]
    have h1 : ¬ a.id < b.id := by omega
    have h2 : ¬ a.id = b.id := by omega
    simp [h1, h2]
  · rw [e]
    have h1 : ¬ a.id < b.id := by omega
    simp only [bne_self_eq_false, Bool.false_eq_true, if_false, h1, decide_false, Bool.false_or, h, decide_true, Bool.true_and]
    rcases cmpI_cases a.field b.field with ⟨h, e⟩ | ⟨h, e⟩ | ⟨h, e⟩ <;> rw [e] <;> simp <;> omega

theorem drop_at {α : Type} {l : List α} {k : Nat} {c : α} (h : l[k]? = some c) : l.drop k = c :: l.drop (k + 1) := by
  have hlt : k < l.length := (List.getElem?_eq_some_iff.1 h).1
  rw [List.drop_eq_getElem_cons hlt, (List.getElem?_eq_some_iff.1 h).2]

def solidB (l : List Cel) : Bool := l.all fun c => !c.v.beq Val.zero
/-- Which lists are the cells of a model. -/
def validB (l : List Cel) : Bool := solidB l && writesB l
def getB (id field : Int) : List Cel → Val
  | [] => Val.zero
  | c :: r => if c.id == id && c.field == field then c.v else getB id field r
def ofB (id : Int) (l : List Cel) : List Cel := l.filter fun c => c.id == id
def sameB : List Cel → List Cel → Bool
  | [], [] => true
  | a :: l, b :: r => a.beq b && sameB l r
  | _, _ => false
theorem sameB_iff : ∀ (a b : List Cel), sameB a b = true ↔ a = b
  | [], [] => by simp [sameB]
  | a :: l, b :: r => by simp [sameB, Cel.beq_iff, sameB_iff l r]
  | [], _ :: _ => by simp [sameB]
  | _ :: _, [] => by simp [sameB]
theorem sameB_len {a b : List Cel} (h : a.length ≠ b.length) : sameB a b = false := by
  cases hs : sameB a b with
  | false => rfl
  | true => exact absurd (congrArg List.length ((sameB_iff a b).1 hs)) h
def strong (l : List Cel) : List Cel := l.filter fun c => !c.v.beq Val.zero
/-- One register. -/
def regB (a b : Cel) : Bool := a.id == b.id && a.field == b.field

/-- Two lists of writes in one; of one register the second's. -/
def over : List Cel → List Cel → List Cel
  | [], b => b
  | a :: l, [] => a :: l
  | x :: a, y :: b => if lt x y then x :: over a (y :: b) else if regB x y then over a (y :: b) else y :: over (x :: a) b
  termination_by a b => a.length + b.length
theorem over_nil_l (b : List Cel) : over [] b = b := by rw [over]
theorem over_nil_r (a : List Cel) : over a [] = a := by cases a <;> rw [over]
theorem over_cons (x y : Cel) (a b : List Cel) : over (x :: a) (y :: b) = if lt x y then x :: over a (y :: b) else if regB x y then over a (y :: b) else y :: over (x :: a) b := by rw [over]
theorem over_len : ∀ a b : List Cel, (over a b).length ≤ a.length + b.length
  | [], b => by rw [over_nil_l]; simp
  | a :: l, [] => by rw [over_nil_r]; simp
  | x :: a, y :: b => by
    have h1 := over_len a (y :: b)
    have h2 := over_len (x :: a) b
    rw [over_cons]
    simp only [List.length_cons] at h1 h2 ⊢
    split
    · simp only [List.length_cons]; omega
    · split
      · omega
      · simp only [List.length_cons]; omega
  termination_by a b => a.length + b.length
def putB (l w : List Cel) : List Cel := if validB l && writesB w then strong (over l w) else []
def refDiff (a b : List Cel) : List Cel → List Cel
  | [] => []
  | c :: r => if (getB c.id c.field b).beq (getB c.id c.field a) then refDiff a b r else ⟨c.id, c.field, getB c.id c.field b⟩ :: refDiff a b r
def rdiffB (a b : List Cel) : List Cel := if validB a && validB b then refDiff a b (over a b) else []
def diff : List Cel → List Cel → List Cel
  | [], b => b
  | x :: a, [] => ⟨x.id, x.field, Val.zero⟩ :: diff a []
  | x :: a, y :: b => if cmpC x y < 0 then ⟨x.id, x.field, Val.zero⟩ :: diff a (y :: b) else if cmpC x y = 0 then (if x.v.beq y.v then diff a b else y :: diff a b) else y :: diff (x :: a) b
  termination_by a b => a.length + b.length
def diffB (a b : List Cel) : List Cel := if validB a && validB b then diff a b else []
theorem diff_nil_l (b : List Cel) : diff [] b = b := by rw [diff]
theorem diff_nil_r (x : Cel) (a : List Cel) : diff (x :: a) [] = ⟨x.id, x.field, Val.zero⟩ :: diff a [] := by rw [diff]
theorem diff_cons (x y : Cel) (a b : List Cel) : diff (x :: a) (y :: b) = if cmpC x y < 0 then ⟨x.id, x.field, Val.zero⟩ :: diff a (y :: b) else if cmpC x y = 0 then (if x.v.beq y.v then diff a b else y :: diff a b) else y :: diff (x :: a) b := by rw [diff]

end Go.Am
