/- Cells: plain functions and plain laws. -/
import Derived.Test.YthbkdnojneffdaaTm15
namespace Go.Am

def Val.beq (a b : Val) : Bool := a.n == b.n && (a.flag == b.flag && (a.text == b.text && (a.ref == b.ref && true)))
theorem Val.beq_def (a b : Val) : a.beq b = (a.n == b.n && (a.flag == b.flag && (a.text == b.text && (a.ref == b.ref && true)))) := rfl
def Cel.beq (a b : Cel) : Bool := a.id == b.id && (a.field == b.field && (a.v.beq b.v && true))
theorem Cel.beq_def (a b : Cel) : a.beq b = (a.id == b.id && (a.field == b.field && (a.v.beq b.v && true))) := rfl
def Val.zero : Val := ⟨0, false, ⟨#[]⟩, 0⟩
theorem ba_beq (a b : ByteArray) : (a == b) = true ↔ a = b := by
  obtain ⟨x⟩ := a
  obtain ⟨y⟩ := b
  show (x == y) = true ↔ _
  simp
theorem Val.beq_iff (a b : Val) : a.beq b = true ↔ a = b := by
  obtain ⟨a1, a2, a3, a4⟩ := a
  obtain ⟨b1, b2, b3, b4⟩ := b
  simp [Val.beq, ba_beq]
theorem Cel.beq_iff (a b : Cel) : a.beq b = true ↔ a = b := by
  obtain ⟨a1, a2, a3⟩ := a
  obtain ⟨b1, b2, b3⟩ := b
  simp [Cel.beq, Val.beq_iff]

/-- Which numbers are ids. -/
def idOk (a : Int) : Bool := decide (1048576 < a) && decide (a < 34603008) && (a % 1048576 != 0)

def cmpI (a b : Int) : Int := if a < b then -1 else if b < a then 1 else 0
def cmpC (a b : Cel) : Int := if cmpI a.id b.id != 0 then cmpI a.id b.id else cmpI a.field b.field
/-- The order of registers. -/
def lt (a b : Cel) : Bool := decide (a.id < b.id) || (decide (a.id = b.id) && decide (a.field < b.field))

theorem cmpI_cases (a b : Int) : (a < b ∧ cmpI a b = -1) ∨ (b < a ∧ cmpI a b = 1) ∨ (a = b ∧ cmpI a b = 0) := by
  unfold cmpI
  by_cases h1 : a < b
  · simp [h1]
  · by_cases h2 : b < a
    · simp [h1, h2]
    · simp [h1, h2]; omega

/-- A cell that may be written. -/
def okC (c : Cel) : Bool := idOk c.id && decide (1 ≤ c.field) && decide (c.field < 48)
def wOk : Option Cel → List Cel → Bool
  | _, [] => true
  | p, c :: r => okC c && (match p with | none => true | some q => lt q c) && wOk (some c) r
/-- Which lists are writes. -/
def writesB (l : List Cel) : Bool := wOk none l
def prevOf (l : List Cel) (k : Nat) : Option Cel := if k = 0 then none else l[k - 1]?

theorem wOk_at {l : List Cel} {k : Nat} {c : Cel} (h : l[k]? = some c) : wOk (prevOf l k) (l.drop k) = (okC c && (match prevOf l k with | none => true | some q => lt q c) && wOk (prevOf l (k + 1)) (l.drop (k + 1))) := by
  have hlt : k < l.length := (List.getElem?_eq_some_iff.1 h).1
  have e : l.drop k = c :: l.drop (k + 1) := by
    rw [List.drop_eq_getElem_cons hlt, (List.getElem?_eq_some_iff.1 h).2]
  have e2 : prevOf l (k + 1) = some c := by simp [prevOf, h]
  rw [e, e2]
  rfl

theorem lt_cmp (a b : Cel) : decide (0 ≤ cmpC a b) = !lt a b := by
  unfold cmpC lt
  rcases cmpI_cases a.id b.id with ⟨h, e⟩ | ⟨h, e⟩ | ⟨h, e⟩
  · rw [e]; simp [h]
  · rw [e]
    have h1 : ¬ a.id < b.id := by omega
    have h2 : ¬ a.id = b.id := by omega
    simp [h1, h2]
  · rw [e]
    have h1 : ¬ a.id < b.id := by omega
    simp only [bne_self_eq_false, Bool.false_eq_true, if_false, h1, decide_false, Bool.false_or, h, decide_true, Bool.true_and]
    rcases cmpI_cases a.field b.field with ⟨h, e⟩ | ⟨h, e⟩ | ⟨h, e⟩ <;> rw [e] <;> simp <;> omega

theorem drop_at {α : Type} {l : List α} {k : Nat} {c : α} (h : l[k]? = some c) : l.drop k = c :: l.drop (k + 1) := by
  have hlt : k < l.length := (List.getElem?_eq_some_iff.1 h).1
  rw [List.drop_eq_getElem_cons hlt, (List.getElem?_eq_some_iff.1 h).2]

def solidB (l : List Cel) : Bool := l.all fun c => !c.v.beq Val.zero
/-- Which lists are the cells of a model. -/
def validB (l : List Cel) : Bool := solidB l && writesB l
def getB (id field : Int) : List Cel → Val
  | [] => Val.zero
  | c :: r => if c.id == id && c.field == field then c.v else getB id field r
def ofB (id : Int) (l : List Cel) : List Cel := l.filter fun c => c.id == id
def sameB : List Cel → List Cel → Bool
  | [], [] => true
  | a :: l, b :: r => a.beq b && sameB l r
  | _, _ => false
theorem sameB_iff : ∀ (a b : List Cel), sameB a b = true ↔ a = b
  | [], [] => by simp [sameB]
  | a :: l, b :: r => by simp [sameB, Cel.beq_iff, sameB_iff l r]
  | [], _ :: _ => by simp [sameB]
  | _ :: _, [] => by simp [sameB]
theorem sameB_len {a b : List Cel} (h : a.length ≠ b.length) : sameB a b = false := by
  cases hs : sameB a b with
  | false => rfl
  | true => exact absurd (congrArg List.length ((sameB_iff a b).1 hs)) h
def strong (l : List Cel) : List Cel := l.filter fun c => !c.v.beq Val.zero
/-- One register. -/
def regB (a b : Cel) : Bool := a.id == b.id && a.field == b.field

/-- Two lists of writes in one; of one register the second's. -/
def over : List Cel → List Cel → List Cel
  | [], b => b
  | a :: l, [] => a :: l
  | x :: a, y :: b => if lt x y then x :: over a (y :: b) else if regB x y then over a (y :: b) else y :: over (x :: a) b
  termination_by a b => a.length + b.length
theorem over_nil_l (b : List Cel) : over [] b = b := by rw [over]
theorem over_nil_r (a : List Cel) : over a [] = a := by cases a <;> rw [over]
theorem over_cons (x y : Cel) (a b : List Cel) : over (x :: a) (y :: b) = if lt x y then x :: over a (y :: b) else if regB x y then over a (y :: b) else y :: over (x :: a) b := by rw [over]
theorem over_len : ∀ a b : List Cel, (over a b).length ≤ a.length + b.length
  | [], b => by rw [over_nil_l]; simp
  | a :: l, [] => by rw [over_nil_r]; simp
  | x :: a, y :: b => by
    have h1 := over_len a (y :: b)
    have h2 := over_len (x :: a) b
    rw [over_cons]
    simp only [List.length_cons] at h1 h2 ⊢
    split
    · simp only [List.length_cons]; omega
    · split
      · omega
      · simp only [List.length_cons]; omega
  termination_by a b => a.length + b.length
def putB (l w : List Cel) : List Cel := if validB l && writesB w then strong (over l w) else []
def refDiff (a b : List Cel) : List Cel → List Cel
  | [] => []
  | c :: r => if (getB c.id c.field b).beq (getB c.id c.field a) then refDiff a b r else ⟨c.id, c.field, getB c.id c.field b⟩ :: refDiff a b r
def rdiffB (a b : List Cel) : List Cel := if validB a && validB b then refDiff a b (over a b) else []
def diff : List Cel → List Cel → List Cel
  | [], b => b
  | x :: a, [] => ⟨x.id, x.field, Val.zero⟩ :: diff a []
  | x :: a, y :: b => if cmpC x y < 0 then ⟨x.id, x.field, Val.zero⟩ :: diff a (y :: b) else if cmpC x y = 0 then (if x.v.beq y.v then diff a b else y :: diff a b) else y :: diff (x :: a) b
  termination_by a b => a.length + b.length
def diffB (a b : List Cel) : List Cel := if validB a && validB b then diff a b else []
theorem diff_nil_l (b : List Cel) : diff [] b = b := by rw [diff]
theorem diff_nil_r (x : Cel) (a : List Cel) : diff (x :: a) [] = ⟨x.id, x.field, Val.zero⟩ :: diff a [] := by rw [diff]
theorem diff_cons (x y : Cel) (a b : List Cel) : diff (x :: a) (y :: b) = if cmpC x y < 0 then ⟨x.id, x.field, Val.zero⟩ :: diff a (y :: b) else if cmpC x y = 0 then (if x.v.beq y.v then diff a b else y :: diff a b) else y :: diff (x :: a) b := by rw [diff]

theorem lt_iff (a b : Cel) : lt a b = true ↔ a.id < b.id ∨ (a.id = b.id ∧ a.field < b.field) := by simp [lt]
theorem reg_iff (a b : Cel) : regB a b = true ↔ a.id = b.id ∧ a.field = b.field := by simp [regB]
theorem cmp_neg (a b : Cel) : decide (cmpC a b < 0) = lt a b := by
  have h := lt_cmp a b
  rw [Bool.eq_iff_iff]
  cases hl : lt a b <;> rw [hl] at h <;> simp at h ⊢ <;> omega
theorem cmp_zero (a b : Cel) : (cmpC a b == 0) = regB a b := by
  rw [Bool.eq_iff_iff, reg_iff]
  unfold cmpC
  rcases cmpI_cases a.id b.id with ⟨h, e⟩ | ⟨h, e⟩ | ⟨h, e⟩ <;> rw [e] <;> simp
  · intro h1; omega
  · intro h1; omega
  · rcases cmpI_cases a.field b.field with ⟨h', e'⟩ | ⟨h', e'⟩ | ⟨h', e'⟩ <;> rw [e'] <;> simp [h] <;> omega
theorem lt_trans {a b c : Cel} (h1 : lt a b = true) (h2 : lt b c = true) : lt a c = true := by
  rw [lt_iff] at *; omega

/-- In ascending order of registers. -/
def SortedC (l : List Cel) : Prop := l.Pairwise fun a b => lt a b = true

theorem wOk_sorted : ∀ {l : List Cel} {p : Option Cel}, wOk p l = true → SortedC l ∧ (∀ q, p = some q → ∀ c ∈ l, lt q c = true) ∧ ∀ c ∈ l, okC c = true
  | [], _, _ => ⟨.nil, fun _ _ c hc => by simp at hc, fun c hc => by simp at hc⟩
  | c :: r, p, h => by
    simp only [wOk, Bool.and_eq_true] at h
    obtain ⟨⟨h1, h2⟩, h3⟩ := h
    obtain ⟨i1, i2, i3⟩ := wOk_sorted h3
    refine ⟨.cons (fun d hd => i2 c rfl d hd) i1, fun q hq d hd => ?_, fun d hd => ?_⟩
    · subst hq
      simp only at h2
      rcases List.mem_cons.1 hd with rfl | hd
      · exact h2
      · exact lt_trans h2 (i2 c rfl d hd)
    · rcases List.mem_cons.1 hd with rfl | hd
      · exact h1
      · exact i3 d hd
theorem writes_iff (l : List Cel) : writesB l = true ↔ SortedC l ∧ ∀ c ∈ l, okC c = true := by
  refine ⟨fun h => ⟨(wOk_sorted h).1, (wOk_sorted h).2.2⟩, fun ⟨h1, h2⟩ => ?_⟩
  unfold writesB
  suffices h : ∀ (l : List Cel) (p : Option Cel), SortedC l → (∀ q, p = some q → ∀ c ∈ l, lt q c = true) → (∀ c ∈ l, okC c = true) → wOk p l = true from h l none h1 (fun q hq => by cases hq) h2
  intro l
  induction l with
  | nil => intros; rfl
  | cons c r ih =>
    intro p h1 h2 h3
    have hp := List.pairwise_cons.1 h1
    simp only [wOk, Bool.and_eq_true]
    refine ⟨⟨h3 c (by simp), ?_⟩, ih _ hp.2 (fun q hq d hd => ?_) fun d hd => h3 d (by simp [hd])⟩
    · cases p with
      | none => rfl
      | some q => exact h2 q rfl c (by simp)
    · cases hq
      exact hp.1 d hd
theorem valid_iff (l : List Cel) : validB l = true ↔ solidB l = true ∧ SortedC l ∧ ∀ c ∈ l, okC c = true := by
  rw [← writes_iff]
  simp [validB]

theorem over_head {x c : Cel} {l w : List Cel} (hs : SortedC (x :: l)) (hr : regB x c = true) : over (x :: l) (c :: w) = c :: over l w := by
  have h1 : lt x c = false := by
    rw [reg_iff] at hr
    cases h : lt x c with
    | false => rfl
    | true => rw [lt_iff] at h; omega
  rw [over_cons, h1, hr]
  simp only [Bool.false_eq_true, if_false, if_true]
  cases l with
  | nil => rw [over_nil_l, over_nil_l]
  | cons y l =>
    have hxy := (List.pairwise_cons.1 hs).1 y (by simp)
    have h2 : lt y c = false := by
      rw [reg_iff] at hr
      rw [lt_iff] at hxy
      cases h : lt y c with
      | false => rfl
      | true => rw [lt_iff] at h; omega
    have h3 : regB y c = false := by
      rw [reg_iff] at hr
      rw [lt_iff] at hxy
      cases h : regB y c with
      | false => rfl
      | true => rw [reg_iff] at h; omega
    rw [over_cons, h2, h3]
    simp
theorem strong_cons (c : Cel) (l : List Cel) : strong (c :: l) = if !c.v.beq Val.zero then c :: strong l else strong l := by simp only [strong, List.filter_cons]
theorem solid_cons (c : Cel) (l : List Cel) : solidB (c :: l) = (!c.v.beq Val.zero && solidB l) := by simp [solidB]
theorem strong_len (l : List Cel) : (strong l).length ≤ l.length := List.length_filter_le ..
theorem strong_solid : ∀ {l : List Cel}, solidB l = true → strong l = l
  | [], _ => rfl
  | c :: l, h => by
    rw [solid_cons, Bool.and_eq_true] at h
    rw [strong_cons, h.1, strong_solid h.2]
    simp
theorem putB_len (l w : List Cel) : (putB l w).length ≤ l.length + w.length := by
  unfold putB
  split
  · exact Nat.le_trans (strong_len _) (over_len _ _)
  · simp

instance decVal : DecidableEq Val := fun a b => decidable_of_iff (a.beq b = true) (Val.beq_iff a b)

def findB (id field : Int) : List Cel → Option Val
  | [] => none
  | c :: r => if c.id == id && c.field == field then some c.v else findB id field r
theorem get_find (i f : Int) : ∀ l : List Cel, getB i f l = (findB i f l).getD Val.zero
  | [] => rfl
  | c :: r => by
    simp only [getB, findB]
    split
    · rfl
    · exact get_find i f r
theorem find_cons (i f : Int) (c : Cel) (r : List Cel) : findB i f (c :: r) = if c.id = i ∧ c.field = f then some c.v else findB i f r := by
  simp [findB]
theorem find_none {i f : Int} : ∀ {l : List Cel}, (∀ c ∈ l, ¬ (c.id = i ∧ c.field = f)) → findB i f l = none
  | [], _ => rfl
  | c :: r, h => by
    rw [find_cons, if_neg (h c (by simp))]
    exact find_none fun d hd => h d (by simp [hd])
theorem find_some {i f : Int} {v : Val} : ∀ {l : List Cel}, findB i f l = some v → ⟨i, f, v⟩ ∈ l
  | [], h => by cases h
  | c :: r, h => by
    rw [find_cons] at h
    split at h
    · rename_i hc
      cases h
      obtain ⟨rfl, rfl⟩ := hc
      simp
    · exact List.mem_cons_of_mem _ (find_some h)
theorem find_mem : ∀ {l : List Cel} (_ : SortedC l) {c : Cel}, c ∈ l → findB c.id c.field l = some c.v
  | x :: r, hs, c, hc => by
    rw [find_cons]
    rcases List.mem_cons.1 hc with rfl | hc
    · simp
    · have hlt := (List.pairwise_cons.1 hs).1 c hc
      rw [lt_iff] at hlt
      rw [if_neg (by omega)]
      exact find_mem (List.pairwise_cons.1 hs).2 hc
theorem find_lt {l : List Cel} {x : Cel} (h : ∀ c ∈ l, lt x c = true) : findB x.id x.field l = none := find_none fun c hc => by
  have := h c hc
  rw [lt_iff] at this
  omega
/-- Lists of writes with the same values are one. -/
theorem find_ext : ∀ {a b : List Cel}, SortedC a → SortedC b → (∀ i f, findB i f a = findB i f b) → a = b
  | [], [], _, _, _ => rfl
  | [], y :: b, _, _, h => by have := h y.id y.field; rw [find_cons, if_pos ⟨rfl, rfl⟩] at this; cases this
  | x :: a, [], _, _, h => by have := h x.id x.field; rw [find_cons, if_pos ⟨rfl, rfl⟩] at this; cases this
  | x :: a, y :: b, ha, hb, h => by
    have pa := List.pairwise_cons.1 ha
    have pb := List.pairwise_cons.1 hb
    have h1 := h x.id x.field
    have h2 := h y.id y.field
    rw [find_cons, if_pos ⟨rfl, rfl⟩] at h1
    rw [find_cons (c := y), if_pos ⟨rfl, rfl⟩] at h2
    have m1 := find_some h1.symm
    have m2 := find_some h2
    have hxy : x = y := by
      rcases List.mem_cons.1 m1 with e | m1
      · exact e
      · rcases List.mem_cons.1 m2 with e | m2
        · exact e.symm
        · have l1 := pb.1 _ m1
          have l2 := pa.1 _ m2
          rw [lt_iff] at l1 l2
          simp only at l1 l2
          omega
    subst hxy
    congr 1
    refine find_ext pa.2 pb.2 fun i f => ?_
    have h3 := h i f
    rw [find_cons, find_cons] at h3
    split at h3
    · rename_i hc
      obtain ⟨rfl, rfl⟩ := hc
      rw [find_lt pa.1, find_lt pb.1]
    · exact h3

theorem mem_over : ∀ (a b : List Cel) (c : Cel), c ∈ over a b → c ∈ a ∨ c ∈ b
  | [], b, c, h => by rw [over_nil_l] at h; exact .inr h
  | x :: a, [], c, h => by rw [over_nil_r] at h; exact .inl h
  | x :: a, y :: b, c, h => by
    have i1 := mem_over a (y :: b) c
    have i2 := mem_over (x :: a) b c
    rw [over_cons] at h
    split at h
    · rcases List.mem_cons.1 h with rfl | h
      · exact .inl (by simp)
      · rcases i1 h with h | h
        · exact .inl (by simp [h])
        · exact .inr h
    · split at h
      · rcases i1 h with h | h
        · exact .inl (by simp [h])
        · exact .inr h
      · rcases List.mem_cons.1 h with rfl | h
        · exact .inr (by simp)
        · rcases i2 h with h | h
          · exact .inl h
          · exact .inr (by simp [h])
  termination_by a b => a.length + b.length
theorem lt_or (a b : Cel) (h1 : ¬ lt a b = true) (h2 : ¬ regB a b = true) : lt b a = true := by
  rw [lt_iff] at *
  rw [reg_iff] at h2
  omega
theorem sorted_over : ∀ (a b : List Cel), SortedC a → SortedC b → SortedC (over a b)
  | [], b, _, hb => by rw [over_nil_l]; exact hb
  | x :: a, [], ha, _ => by rw [over_nil_r]; exact ha
  | x :: a, y :: b, ha, hb => by
    have pa := List.pairwise_cons.1 ha
    have pb := List.pairwise_cons.1 hb
    have i1 := sorted_over a (y :: b) pa.2 hb
    have i2 := sorted_over (x :: a) b ha pb.2
    rw [over_cons]
    split
    · rename_i hxy
      refine .cons (fun d hd => ?_) i1
      rcases mem_over _ _ d hd with hd | hd
      · exact pa.1 d hd
      · rcases List.mem_cons.1 hd with rfl | hd
        · exact hxy
        · exact lt_trans hxy (pb.1 d hd)
    · rename_i hxy
      split
      · exact i1
      · rename_i hr
        have hyx := lt_or x y hxy hr
        refine .cons (fun d hd => ?_) i2
        rcases mem_over _ _ d hd with hd | hd
        · rcases List.mem_cons.1 hd with rfl | hd
          · exact hyx
          · exact lt_trans hyx (pa.1 d hd)
        · exact pb.1 d hd
  termination_by a b => a.length + b.length
theorem find_over (i f : Int) : ∀ (a b : List Cel), SortedC a → SortedC b → findB i f (over a b) = (findB i f b).or (findB i f a)
  | [], b, _, _ => by rw [over_nil_l]; simp [findB]
  | x :: a, [], _, _ => by rw [over_nil_r]; simp [findB]
  | x :: a, y :: b, ha, hb => by
    have pa := List.pairwise_cons.1 ha
    have pb := List.pairwise_cons.1 hb
    have i1 := find_over i f a (y :: b) pa.2 hb
    have i2 := find_over i f (x :: a) b ha pb.2
    rw [over_cons]
    split
    · rename_i hxy
      rw [find_cons i f x, find_cons i f x, i1]
      split
      · rename_i hc
        obtain ⟨rfl, rfl⟩ := hc
        rw [find_lt (l := y :: b) fun c hc => by
          rcases List.mem_cons.1 hc with rfl | hc
          · exact hxy
          · exact lt_trans hxy (pb.1 c hc)]
        rfl
      · rfl
    · split
      · rename_i hr
        rw [reg_iff] at hr
        rw [i1, find_cons i f x, find_cons i f y]
        split
        · simp
        · rw [if_neg (by rw [hr.1, hr.2]; assumption)]
      · rw [find_cons i f y, find_cons i f y, i2]
        split
        · simp
        · rfl
  termination_by a b => a.length + b.length

theorem sorted_strong {l : List Cel} (h : SortedC l) : SortedC (strong l) := List.Pairwise.filter _ h
theorem find_strong (i f : Int) : ∀ {l : List Cel}, SortedC l → findB i f (strong l) = (findB i f l).filter fun v => !v.beq Val.zero
  | [], _ => rfl
  | c :: l, h => by
    have p := List.pairwise_cons.1 h
    have ih := find_strong i f p.2
    rw [strong_cons, find_cons i f c]
    by_cases hc : c.id = i ∧ c.field = f
    · rw [if_pos hc]
      split
      · rename_i hz
        rw [find_cons, if_pos hc]
        simp [Option.filter, hz]
      · rename_i hz
        obtain ⟨rfl, rfl⟩ := hc
        rw [ih, find_lt p.1]
        simp [Option.filter, hz]
    · rw [if_neg hc]
      split
      · rw [find_cons, if_neg hc, ih]
      · exact ih
theorem solid_strong : ∀ l : List Cel, solidB (strong l) = true := fun l => by simp [solidB, strong]
theorem ok_strong {l : List Cel} (h : ∀ c ∈ l, okC c = true) : ∀ c ∈ strong l, okC c = true := fun c hc => h c (List.mem_filter.1 hc).1

theorem put_valid {l w : List Cel} (hl : validB l = true) (hw : writesB w = true) : putB l w = strong (over l w) ∧ validB (putB l w) = true := by
  have e : putB l w = strong (over l w) := by unfold putB; simp [hl, hw]
  obtain ⟨_, h2, h3⟩ := (valid_iff l).1 hl
  obtain ⟨g1, g2⟩ := (writes_iff w).1 hw
  refine ⟨e, (valid_iff _).2 ?_⟩
  rw [e]
  refine ⟨solid_strong _, sorted_strong (sorted_over l w h2 g1), ok_strong fun c hc => ?_⟩
  rcases mem_over l w c hc with h | h
  · exact h3 c h
  · exact g2 c h
theorem find_solid {i f : Int} {l : List Cel} (h : solidB l = true) : (findB i f l).filter (fun v => !v.beq Val.zero) = findB i f l := by
  cases hf : findB i f l with
  | none => rfl
  | some v =>
    have := find_some hf
    simp only [solidB, List.all_eq_true] at h
    have := h _ this
    simp only at this
    simp [Option.filter, this]
theorem find_put {l w : List Cel} (hl : validB l = true) (hw : writesB w = true) (i f : Int) : findB i f (putB l w) = match findB i f w with | some v => if v.beq Val.zero then none else some v | none => findB i f l := by
  rw [(put_valid hl hw).1]
  obtain ⟨h1, h2, _⟩ := (valid_iff l).1 hl
  obtain ⟨g1, _⟩ := (writes_iff w).1 hw
  rw [find_strong i f (sorted_over l w h2 g1), find_over i f l w h2 g1]
  cases hf : findB i f w with
  | none => simpa using find_solid h1
  | some v =>
    simp only [Option.or, Option.filter]
    by_cases hv : v.beq Val.zero = true
    · simp [hv]
    · simp [hv]
theorem get_put {l w : List Cel} (hl : validB l = true) (hw : writesB w = true) (i f : Int) : getB i f (putB l w) = match findB i f w with | some v => v | none => getB i f l := by
  rw [get_find, find_put hl hw]
  cases hf : findB i f w with
  | none => simp [get_find]
  | some v =>
    simp only
    cases hv : v.beq Val.zero with
    | true => simp [(Val.beq_iff v Val.zero).1 hv]
    | false => simp

/-- Writes of different registers may be done in any order. -/
theorem put_apart {l a b : List Cel} (hl : validB l = true) (ha : writesB a = true) (hb : writesB b = true) (hd : ∀ x ∈ a, ∀ y ∈ b, regB x y = false) : putB (putB l a) b = putB (putB l b) a := by
  have h1 := put_valid hl ha
  have h2 := put_valid hl hb
  have h3 := (put_valid h1.2 hb).2
  have h4 := (put_valid h2.2 ha).2
  refine find_ext ((valid_iff _).1 h3).2.1 ((valid_iff _).1 h4).2.1 fun i f => ?_
  rw [find_put h1.2 hb, find_put h2.2 ha, find_put hl ha, find_put hl hb]
  cases hfa : findB i f a with
  | none => cases hfb : findB i f b <;> rfl
  | some v =>
    cases hfb : findB i f b with
    | none => rfl
    | some u =>
      have := hd _ (find_some hfa) _ (find_some hfb)
      simp [regB] at this

/-! ### Diff -/

/-- What the writes from a to b have for a register. -/
def wantD (i f : Int) (a b : List Cel) : Option Val := if getB i f a = getB i f b then none else some (getB i f b)

theorem get_cons (i f : Int) (c : Cel) (r : List Cel) : getB i f (c :: r) = if c.id = i ∧ c.field = f then c.v else getB i f r := by simp [getB]
theorem get_lt {l : List Cel} {x : Cel} (h : ∀ c ∈ l, lt x c = true) : getB x.id x.field l = Val.zero := by rw [get_find, find_lt h]; rfl
theorem mem_diff : ∀ (a b : List Cel) (c : Cel), c ∈ diff a b → ∃ d, (d ∈ a ∨ d ∈ b) ∧ d.id = c.id ∧ d.field = c.field
  | [], b, c, h => by rw [diff_nil_l] at h; exact ⟨c, .inr h, rfl, rfl⟩
  | x :: a, [], c, h => by
    have i1 := mem_diff a [] c
    rw [diff_nil_r] at h
    rcases List.mem_cons.1 h with rfl | h
    · exact ⟨x, .inl (by simp), rfl, rfl⟩
    · obtain ⟨d, hd, e⟩ := i1 h
      exact ⟨d, hd.imp (fun h => by simp [h]) id, e⟩
  | x :: a, y :: b, c, h => by
    have i1 := mem_diff a (y :: b) c
    have i2 := mem_diff (x :: a) b c
    have i3 := mem_diff a b c
    rw [diff_cons] at h
    split at h
    · rcases List.mem_cons.1 h with rfl | h
      · exact ⟨x, .inl (by simp), rfl, rfl⟩
      · obtain ⟨d, hd, e⟩ := i1 h
        exact ⟨d, hd.imp (fun h => by simp [h]) id, e⟩
    · split at h
      · split at h
        · obtain ⟨d, hd, e⟩ := i3 h
          exact ⟨d, hd.imp (fun h => by simp [h]) (fun h => by simp [h]), e⟩
        · rcases List.mem_cons.1 h with rfl | h
          · exact ⟨c, .inr (by simp), rfl, rfl⟩
          · obtain ⟨d, hd, e⟩ := i3 h
            exact ⟨d, hd.imp (fun h => by simp [h]) (fun h => by simp [h]), e⟩
      · rcases List.mem_cons.1 h with rfl | h
        · exact ⟨c, .inr (by simp), rfl, rfl⟩
        · obtain ⟨d, hd, e⟩ := i2 h
          exact ⟨d, hd.imp id (fun h => by simp [h]), e⟩
  termination_by a b => a.length + b.length
theorem diff_above {x : Cel} {a b : List Cel} (ha : ∀ c ∈ a, lt x c = true) (hb : ∀ c ∈ b, lt x c = true) : ∀ c ∈ diff a b, lt x c = true := fun c hc => by
  obtain ⟨d, hd, e1, e2⟩ := mem_diff a b c hc
  have : lt x d = true := hd.elim (ha d) (hb d)
  rw [lt_iff] at this ⊢
  omega
theorem cmp_lt {x y : Cel} (h : cmpC x y < 0) : lt x y = true := by rw [← cmp_neg]; simpa using h
theorem cmp_eq {x y : Cel} (h : cmpC x y = 0) : regB x y = true := by rw [← cmp_zero]; simpa using h
theorem cmp_gt {x y : Cel} (h1 : ¬ cmpC x y < 0) (h2 : ¬ cmpC x y = 0) : lt y x = true :=
  lt_or x y (by rw [← cmp_neg]; simpa using h1) (by rw [← cmp_zero]; simpa using h2)
theorem above_cons {x y : Cel} {l : List Cel} (h : lt x y = true) (hs : SortedC (y :: l)) : ∀ c ∈ y :: l, lt x c = true := fun c hc => by
  rcases List.mem_cons.1 hc with rfl | hc
  · exact h
  · exact lt_trans h ((List.pairwise_cons.1 hs).1 c hc)
theorem above_reg {x y : Cel} {l : List Cel} (h : regB x y = true) (hs : ∀ c ∈ l, lt x c = true) : ∀ c ∈ l, lt y c = true := fun c hc => by
  have := hs c hc
  rw [reg_iff] at h
  rw [lt_iff] at this ⊢
  omega
theorem sorted_diff : ∀ (a b : List Cel), SortedC a → SortedC b → SortedC (diff a b)
  | [], b, _, hb => by rw [diff_nil_l]; exact hb
  | x :: a, [], ha, hb => by
    have pa := List.pairwise_cons.1 ha
    have i1 := sorted_diff a [] pa.2 hb
    rw [diff_nil_r]
    refine .cons (fun d hd => ?_) i1
    have := diff_above pa.1 (b := []) (fun c hc => by cases hc) d hd
    rw [lt_iff] at this ⊢
    exact this
  | x :: a, y :: b, ha, hb => by
    have pa := List.pairwise_cons.1 ha
    have pb := List.pairwise_cons.1 hb
    have i1 := sorted_diff a (y :: b) pa.2 hb
    have i2 := sorted_diff (x :: a) b ha pb.2
    have i3 := sorted_diff a b pa.2 pb.2
    rw [diff_cons]
    split
    · rename_i h
      refine .cons (fun d hd => ?_) i1
      have := diff_above pa.1 (above_cons (cmp_lt h) hb) d hd
      rw [lt_iff] at this ⊢
      exact this
    · rename_i h
      split
      · rename_i h2
        split
        · exact i3
        · exact .cons (fun d hd => diff_above (above_reg (cmp_eq h2) pa.1) pb.1 d hd) i3
      · rename_i h2
        exact .cons (fun d hd => diff_above (above_cons (cmp_gt h h2) ha) pb.1 d hd) i2
  termination_by a b => a.length + b.length
theorem ok_diff {a b : List Cel} (ha : ∀ c ∈ a, okC c = true) (hb : ∀ c ∈ b, okC c = true) : ∀ c ∈ diff a b, okC c = true := fun c hc => by
  obtain ⟨d, hd, e1, e2⟩ := mem_diff a b c hc
  have : okC d = true := hd.elim (ha d) (hb d)
  unfold okC at this ⊢
  rw [← e1, ← e2]
  exact this
theorem solid_head {x : Cel} {l : List Cel} (h : solidB (x :: l) = true) : x.v ≠ Val.zero ∧ solidB l = true := by
  rw [solid_cons, Bool.and_eq_true] at h
  refine ⟨fun e => ?_, h.2⟩
  rw [(Val.beq_iff x.v Val.zero).2 e] at h
  exact absurd h.1 (by simp)
theorem find_get_solid {i f : Int} {l : List Cel} (h : solidB l = true) : findB i f l = if getB i f l = Val.zero then none else some (getB i f l) := by
  rw [get_find]
  cases hf : findB i f l with
  | none => simp
  | some v =>
    have hm := find_some hf
    simp only [solidB, List.all_eq_true] at h
    have := h _ hm
    simp only [Bool.not_eq_true', ← Bool.not_eq_true, Val.beq_iff] at this
    simp [this]
theorem find_diff (i f : Int) : ∀ (a b : List Cel), SortedC a → SortedC b → solidB a = true → solidB b = true → findB i f (diff a b) = wantD i f a b
  | [], b, _, hb, _, sb => by
    rw [diff_nil_l, find_get_solid sb]
    unfold wantD
    rw [show getB i f [] = Val.zero from rfl]
    by_cases h : getB i f b = Val.zero
    · simp [h]
    · rw [if_neg h, if_neg (fun e => h e.symm)]
  | x :: a, [], ha, hb, sa, sb => by
    have pa := List.pairwise_cons.1 ha
    obtain ⟨s1, s2⟩ := solid_head sa
    have i1 := find_diff i f a [] pa.2 hb s2 sb
    rw [diff_nil_r, find_cons, i1]
    unfold wantD
    rw [show getB i f [] = Val.zero from rfl, get_cons]
    by_cases hc : x.id = i ∧ x.field = f
    · simp [hc, s1]
    · simp [hc]
  | x :: a, y :: b, ha, hb, sa, sb => by
    have pa := List.pairwise_cons.1 ha
    have pb := List.pairwise_cons.1 hb
    obtain ⟨s1, s2⟩ := solid_head sa
    obtain ⟨t1, t2⟩ := solid_head sb
    have i1 := find_diff i f a (y :: b) pa.2 hb s2 sb
    have i2 := find_diff i f (x :: a) b ha pb.2 sa t2
    have i3 := find_diff i f a b pa.2 pb.2 s2 t2
    rw [diff_cons]
    split
    · rename_i h
      rw [find_cons, i1]
      unfold wantD
      rw [get_cons i f x]
      by_cases hc : x.id = i ∧ x.field = f
      · obtain ⟨rfl, rfl⟩ := hc
        rw [get_lt (above_cons (cmp_lt h) hb)]
        simp [s1]
      · simp [hc]
    · rename_i h
      split
      · rename_i h2
        have hr := (reg_iff x y).1 (cmp_eq h2)
        split
        · rename_i h3
          rw [Val.beq_iff] at h3
          rw [i3]
          unfold wantD
          rw [get_cons i f x, get_cons i f y]
          by_cases hc : y.id = i ∧ y.field = f
          · have hc' : x.id = i ∧ x.field = f := by rw [hr.1, hr.2]; exact hc
            have hc2 := hc
            obtain ⟨rfl, rfl⟩ := hc
            rw [get_lt pb.1, get_lt (above_reg (cmp_eq h2) pa.1)]
            simp [hc', h3]
          · have hc' : ¬ (x.id = i ∧ x.field = f) := by rw [hr.1, hr.2]; exact hc
            simp [hc, hc']
        · rename_i h3
          rw [Val.beq_iff] at h3
          rw [find_cons, i3]
          unfold wantD
          rw [get_cons i f x, get_cons i f y]
          by_cases hc : y.id = i ∧ y.field = f
          · have hc' : x.id = i ∧ x.field = f := by rw [hr.1, hr.2]; exact hc
            rw [if_pos hc, if_pos hc, if_pos hc', if_neg h3]
          · have hc' : ¬ (x.id = i ∧ x.field = f) := by rw [hr.1, hr.2]; exact hc
            simp [hc, hc']
      · rename_i h2
        rw [find_cons, i2]
        unfold wantD
        rw [get_cons i f y]
        by_cases hc : y.id = i ∧ y.field = f
        · obtain ⟨rfl, rfl⟩ := hc
          rw [get_lt (above_cons (cmp_gt h h2) ha)]
          have ht : ¬ (Val.zero = y.v) := fun e => t1 e.symm
          simp [ht]
        · rw [if_neg hc, if_neg hc]
  termination_by a b => a.length + b.length

/-- The writes from a to b lead from a to b. -/
theorem diff_back {a b : List Cel} (ha : validB a = true) (hb : validB b = true) : writesB (diffB a b) = true ∧ putB a (diffB a b) = b ∧ ∀ c ∈ diffB a b, getB c.id c.field a ≠ c.v := by
  obtain ⟨a1, a2, a3⟩ := (valid_iff a).1 ha
  obtain ⟨b1, b2, b3⟩ := (valid_iff b).1 hb
  have e : diffB a b = diff a b := by unfold diffB; simp [ha, hb]
  rw [e]
  have hw : writesB (diff a b) = true := (writes_iff _).2 ⟨sorted_diff a b a2 b2, ok_diff a3 b3⟩
  refine ⟨hw, ?_, fun c hc hcv => ?_⟩
  · have hp := (put_valid ha hw).2
    refine find_ext ((valid_iff _).1 hp).2.1 b2 fun i f => ?_
    rw [find_put ha hw, find_diff i f a b a2 b2 a1 b1, find_get_solid b1, find_get_solid a1]
    unfold wantD
    by_cases h : getB i f a = getB i f b
    · simp [h]
    · simp only [h, if_false]
      by_cases hz : getB i f b = Val.zero
      · simp [hz, (Val.beq_iff _ _).2]
      · have : (getB i f b).beq Val.zero = false := by
          cases hq : (getB i f b).beq Val.zero with
          | false => rfl
          | true => exact absurd ((Val.beq_iff _ _).1 hq) hz
        simp [hz, this]
  · have h1 := find_mem (sorted_diff a b a2 b2) hc
    rw [find_diff _ _ a b a2 b2 a1 b1] at h1
    unfold wantD at h1
    split at h1
    · cases h1
    · rename_i hne
      exact hne (hcv.trans (Option.some.inj h1).symm)

/-- Both ways to find the writes are one. -/
theorem mem_refDiff (a b : List Cel) : ∀ (l : List Cel) (c : Cel), c ∈ refDiff a b l → ∃ d ∈ l, d.id = c.id ∧ d.field = c.field
  | [], c, h => by cases h
  | x :: l, c, h => by
    simp only [refDiff] at h
    split at h
    · obtain ⟨d, hd, e⟩ := mem_refDiff a b l c h
      exact ⟨d, by simp [hd], e⟩
    · rcases List.mem_cons.1 h with rfl | h
      · exact ⟨x, by simp, rfl, rfl⟩
      · obtain ⟨d, hd, e⟩ := mem_refDiff a b l c h
        exact ⟨d, by simp [hd], e⟩
theorem sorted_refDiff (a b : List Cel) : ∀ (l : List Cel), SortedC l → SortedC (refDiff a b l)
  | [], _ => .nil
  | x :: l, h => by
    have p := List.pairwise_cons.1 h
    have ih := sorted_refDiff a b l p.2
    simp only [refDiff]
    split
    · exact ih
    · refine .cons (fun c hc => ?_) ih
      obtain ⟨d, hd, e1, e2⟩ := mem_refDiff a b l c hc
      have := p.1 d hd
      rw [lt_iff] at this ⊢
      simp only
      omega
theorem find_refDiff (a b : List Cel) (i f : Int) : ∀ (l : List Cel), SortedC l → findB i f (refDiff a b l) = match findB i f l with | some _ => wantD i f a b | none => none
  | [], _ => rfl
  | x :: l, h => by
    have p := List.pairwise_cons.1 h
    have ih := find_refDiff a b i f l p.2
    by_cases hc : x.id = i ∧ x.field = f
    · obtain ⟨rfl, rfl⟩ := hc
      have e1 : findB x.id x.field (x :: l) = some x.v := by rw [find_cons, if_pos ⟨rfl, rfl⟩]
      have e2 : findB x.id x.field (refDiff a b l) = none := by rw [ih, find_lt p.1]
      rw [e1]
      show _ = wantD x.id x.field a b
      unfold wantD refDiff
      by_cases hq : getB x.id x.field a = getB x.id x.field b
      · rw [if_pos ((Val.beq_iff _ _).2 hq.symm), if_pos hq, e2]
      · rw [if_neg (fun e => hq ((Val.beq_iff _ _).1 e).symm), if_neg hq, find_cons, if_pos ⟨rfl, rfl⟩]
    · rw [find_cons i f x, if_neg hc, ← ih]
      simp only [refDiff]
      split
      · rfl
      · rw [find_cons, if_neg hc]
theorem diff_ref (a b : List Cel) : diffB a b = rdiffB a b := by
  unfold diffB rdiffB
  split
  · rename_i h
    rw [Bool.and_eq_true] at h
    obtain ⟨a1, a2, a3⟩ := (valid_iff a).1 h.1
    obtain ⟨b1, b2, b3⟩ := (valid_iff b).1 h.2
    have so := sorted_over a b a2 b2
    refine find_ext (sorted_diff a b a2 b2) (sorted_refDiff a b _ so) fun i f => ?_
    rw [find_diff i f a b a2 b2 a1 b1, find_refDiff a b i f _ so, find_over i f a b a2 b2]
    cases hb : findB i f b with
    | some v => rfl
    | none =>
      cases ha : findB i f a with
      | some v => rfl
      | none => simp [wantD, get_find, ha, hb]
  · rfl

theorem diff_len : ∀ a b : List Cel, (diff a b).length ≤ a.length + b.length
  | [], b => by rw [diff_nil_l]; simp
  | x :: a, [] => by
    have h1 := diff_len a []
    rw [diff_nil_r]
    simp only [List.length_cons, List.length_nil] at h1 ⊢
    omega
  | x :: a, y :: b => by
    have h1 := diff_len a (y :: b)
    have h2 := diff_len (x :: a) b
    have h3 := diff_len a b
    rw [diff_cons]
    simp only [List.length_cons] at h1 h2 ⊢
    split
    · simp only [List.length_cons]; omega
    · split
      · split
        · omega
        · simp only [List.length_cons]; omega
      · simp only [List.length_cons]; omega
  termination_by a b => a.length + b.length
theorem diffB_len (a b : List Cel) : (diffB a b).length ≤ a.length + b.length := by
  unfold diffB
  split
  · exact diff_len a b
  · simp

/-- What a register has after writes. -/
def afterB (i f : Int) (v : Val) (w : List Cel) : Val := match findB i f w with | some u => u | none => v
theorem get_put' {l w : List Cel} (hl : validB l = true) (hw : writesB w = true) (i f : Int) : getB i f (putB l w) = afterB i f (getB i f l) w := get_put hl hw i f
theorem after_cons {i f : Int} {v : Val} {c : Cel} {w : List Cel} (hs : SortedC (c :: w)) : afterB i f v (c :: w) = afterB i f (if c.id == i && c.field == f then c.v else v) w := by
  unfold afterB
  rw [find_cons]
  by_cases hc : c.id = i ∧ c.field = f
  · obtain ⟨rfl, rfl⟩ := hc
    rw [find_lt (List.pairwise_cons.1 hs).1]
    simp
  · have : (c.id == i && c.field == f) = false := by
      cases h : (c.id == i && c.field == f) with
      | false => rfl
      | true => simp at h; exact absurd h hc
    rw [if_neg hc, this]
    rfl
theorem sorted_drop {w : List Cel} (h : SortedC w) (k : Nat) : SortedC (w.drop k) := List.Pairwise.sublist (List.drop_sublist k w) h
theorem get_mem {l w : List Cel} (hl : validB l = true) (hw : writesB w = true) {c : Cel} (hc : c ∈ w) : getB c.id c.field (putB l w) = c.v := by
  rw [get_put hl hw, find_mem ((writes_iff w).1 hw).1 hc]

end Go.Am
