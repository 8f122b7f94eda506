/- The typed machine: shapes. -/
import Derived.Test.YthbkdnojneffdaaTm10
namespace Go.Am

def WhLe (m m' : List Wh) : Prop := m'.length = m.length ∧ ∀ (i : Nat) (w : Wh), m[i]? = some w → w ≠ .no → m'[i]? = some w
theorem WhLe.refl (m : List Wh) : WhLe m m := ⟨rfl, fun _ _ h _ => h⟩
theorem WhLe.trans {m m' m'' : List Wh} (h : WhLe m m') (h' : WhLe m' m'') : WhLe m m'' := ⟨h'.1.trans h.1, fun i w h1 h2 => h'.2 i w (h.2 i w h1 h2) h2⟩

theorem same_eq {w w' : Wh} (h : w.same w' = true) : w = w' := by
  cases w <;> cases w' <;> simp [Wh.same] at h
  · rfl
  · rw [h]

theorem asg_spec {m m' : List Wh} {i : Nat} {w : Wh} (h : asg m i w = some m') : WhLe m m' ∧ m'[i]? = some w := by
  unfold asg at h
  split at h
  · rename_i hi
    cases h
    have hlt := (List.getElem?_eq_some_iff.1 hi).1
    refine ⟨⟨by simp, fun k w' hk hne => ?_⟩, by rw [List.getElem?_set_self hlt]⟩
    by_cases e : i = k
    · subst e; rw [hi] at hk; cases hk; exact absurd rfl hne
    · rw [List.getElem?_set_ne e]; exact hk
  · rename_i w' hne hi
    cases hb : w'.same w with
    | false => rw [hb] at h; cases h
    | true =>
      rw [hb] at h
      cases h
      have := same_eq hb
      subst this
      exact ⟨WhLe.refl _, hi⟩
  · cases h

def AsgOk (m : List Wh) : List STy → List TV → Prop
  | [], [] => True
  | .ow i :: r, x :: xs => ((∃ j, x = .ow j ∧ m[i]? = some (.is j)) ∨ (∃ j n, x = .own j 0 n ∧ m[i]? = some (.cut j n)) ∨ (x = .nils ∧ m[i]? = some .nil)) ∧ AsgOk m r xs
  | .ptr i o :: r, x :: xs => (∃ j, x = .ptr j o ∧ m[i]? = some (.is j)) ∧ AsgOk m r xs
  | _ :: r, _ :: xs => AsgOk m r xs
  | _, _ => False

theorem AsgOk.mono {m m' : List Wh} (hm : WhLe m m') : ∀ {d : List STy} {xs : List TV}, AsgOk m d xs → AsgOk m' d xs
  | [], [], _ => trivial
  | [], _ :: _, h => h.elim
  | t :: r, [], h => by cases t <;> exact h.elim
  | t :: r, x :: xs, h => by
    cases t <;> simp only [AsgOk] at h ⊢
    case ow i =>
      refine ⟨?_, AsgOk.mono hm h.2⟩
      rcases h.1 with ⟨j, e, hj⟩ | ⟨j, n, e, hj⟩ | ⟨e, hj⟩
      · exact .inl ⟨j, e, hm.2 _ _ hj (by simp)⟩
      · exact .inr (.inl ⟨j, n, e, hm.2 _ _ hj (by simp)⟩)
      · exact .inr (.inr ⟨e, hm.2 _ _ hj (by simp)⟩)
    case ptr i o =>
      obtain ⟨⟨j, e, hj⟩, h2⟩ := h
      exact ⟨⟨j, e, hm.2 _ _ hj (by simp)⟩, AsgOk.mono hm h2⟩
    all_goals exact AsgOk.mono hm h

theorem asgF_spec : ∀ {d : List STy} {xs : List TV} {m m' : List Wh}, asgF d xs m = some m' → WhLe m m' ∧ AsgOk m' d xs
  | [], [], m, m', h => by simp only [asgF, Option.some.injEq] at h; subst h; exact ⟨WhLe.refl _, trivial⟩
  | [], _ :: _, m, m', h => by simp [asgF] at h
  | t :: r, [], m, m', h => by cases t <;> simp [asgF] at h
  | t :: r, x :: xs, m, m', h => by
    have key : ∀ (i : Nat) (w : Wh), (match asg m i w with | some m => asgF r xs m | none => none) = some m' → w ≠ .no → WhLe m m' ∧ m'[i]? = some w ∧ AsgOk m' r xs := fun i w hh hw => by
      split at hh
      · rename_i m1 h1
        obtain ⟨a1, a2⟩ := asg_spec h1
        obtain ⟨b1, b2⟩ := asgF_spec hh
        exact ⟨a1.trans b1, b1.2 _ _ a2 hw, b2⟩
      · cases hh
    cases t with
    | ow i =>
      cases x with
      | ow j => simp only [asgF] at h; obtain ⟨a, b, c⟩ := key _ _ h (by simp); exact ⟨a, .inl ⟨j, rfl, b⟩, c⟩
      | own j o n =>
        cases o with
        | zero => simp only [asgF] at h; obtain ⟨a, b, c⟩ := key _ _ h (by simp); exact ⟨a, .inr (.inl ⟨j, n, rfl, b⟩), c⟩
        | succ o => simp [asgF] at h
      | nils => simp only [asgF] at h; obtain ⟨a, b, c⟩ := key _ _ h (by simp); exact ⟨a, .inr (.inr ⟨rfl, b⟩), c⟩
      | _ => simp [asgF] at h
    | ptr i o =>
      cases x with
      | ptr j o' =>
        simp only [asgF] at h
        cases hb : Nat.beq o o' with
        | false => rw [hb] at h; cases h
        | true =>
          rw [hb] at h
          have := Nat.eq_of_beq_eq_true hb
          subst this
          obtain ⟨a, b, c⟩ := key _ _ h (by simp)
          exact ⟨a, ⟨j, rfl, b⟩, c⟩
      | _ => simp [asgF] at h
    | _ => simp only [asgF] at h; obtain ⟨a, b⟩ := asgF_spec h; exact ⟨a, b⟩

/-- Blocks' cells. -/
def AsgB (st : TStore) (m : List Wh) : Nat → List OTy → Prop
  | _, [] => True
  | i, .blk _ cs :: r => (∃ j t xs, m[i]? = some (.is j) ∧ st[j]? = some (.blk t xs) ∧ AsgOk m cs xs) ∧ AsgB st m (i + 1) r
  | i, .row .. :: r => AsgB st m (i + 1) r

theorem asgO_spec {st : TStore} : ∀ {d : List OTy} {i : Nat} {m m' : List Wh}, asgO st i d m = some m' → WhLe m m' ∧ AsgB st m' i d
  | [], i, m, m', h => by simp only [asgO, Option.some.injEq] at h; subst h; exact ⟨WhLe.refl _, trivial⟩
  | .row .. :: r, i, m, m', h => by simp only [asgO] at h; exact asgO_spec (d := r) h
  | .blk t cs :: r, i, m, m', h => by
    simp only [asgO] at h
    split at h
    · rename_i j hj
      split at h
      · rename_i t' xs hst
        split at h
        · rename_i m1 h1
          obtain ⟨a1, a2⟩ := asgF_spec h1
          obtain ⟨b1, b2⟩ := asgO_spec h
          exact ⟨a1.trans b1, ⟨j, t', xs, (a1.trans b1).2 _ _ hj (by simp), hst, a2.mono b1⟩, b2⟩
        · cases h
      · cases h
    · cases h

/-- What a shape's object is in the state and in the shape's own. -/
def ObjOk (st st' : TStore) (i : Nat) : Wh → Prop
  | .is j => (∃ t xs xs', st[j]? = some (.blk t xs) ∧ st'[i]? = some (.blk t xs')) ∨ ∃ f t c l, st[j]? = some (.row f t c l) ∧ st'[i]? = some (.row f t c l)
  | .cut j n => ∃ f t c l, st[j]? = some (.row f t c l) ∧ st'[i]? = some (.row f t c (l.take n))
  | .nil => ∃ t c, st'[i]? = some (.row true t c [])
  | .no => False

theorem ObjOk.succ {st st' : TStore} {o : TObj} {i : Nat} {w : Wh} (h : ObjOk st st' i w) : ObjOk st (o :: st') (i + 1) w := by
  cases w with
  | no => exact h.elim
  | _ => simpa [ObjOk] using h

/-- The i-th object of a shape. -/
def Blks (st : TStore) (m : List Wh) (st' : TStore) : Nat → (d : List OTy) → denO d → Prop
  | _, [], _ => True
  | i, .blk t cs :: r, x => (∃ j xs, m[i]? = some (.is j) ∧ st[j]? = some (.blk t xs) ∧ unF st cs xs = some x.1 ∧ st'[i]? = some (.blk t (shF cs x.1))) ∧ Blks st m st' (i + 1) r x.2
  | i, .row .. :: r, x => Blks st m st' (i + 1) r x.2

theorem unO_spec {st : TStore} : ∀ {d : List OTy} {m : List Wh} {x : denO d}, unO st d m = some x → m.length = d.length ∧ (shO d x).length = d.length ∧ ∀ (i : Nat) (w : Wh), m[i]? = some w → ObjOk st (shO d x) i w
  | [], [], x, h => ⟨rfl, rfl, fun i w hi => by simp at hi⟩
  | [], _ :: _, x, h => by simp [unO] at h
  | t :: r, [], x, h => by cases t <;> simp [unO] at h
  | .blk t cs :: r, w :: m, x, h => by
    cases w with
    | is j =>
      simp only [unO] at h
      split at h
      · rename_i t' xs hst
        cases hb : Nat.beq t t' with
        | false => rw [hb] at h; cases h
        | true =>
          rw [hb] at h
          have := Nat.eq_of_beq_eq_true hb
          subst this
          simp only [cond_true] at h
          split at h
          · rename_i a ha
            split at h
            · rename_i y hy
              cases h
              obtain ⟨g1, g2, g3⟩ := unO_spec hy
              refine ⟨by simp [g1], by simp [shO, g2], fun i w' hi => ?_⟩
              cases i with
              | zero => simp at hi; subst hi; exact .inl ⟨t, xs, shF cs a, hst, rfl⟩
              | succ i => exact (g3 i w' (by simpa using hi)).succ
            · cases h
          · cases h
      · cases h
    | _ => simp [unO] at h
  | .row f t c :: r, w :: m, x, h => by
    cases w with
    | no => simp [unO] at h
    | nil =>
      cases f with
      | false => simp [unO] at h
      | true =>
        simp only [unO] at h
        split at h
        · rename_i y hy
          cases h
          obtain ⟨g1, g2, g3⟩ := unO_spec hy
          refine ⟨by simp [g1], by simp [shO, g2], fun i w' hi => ?_⟩
          cases i with
          | zero => simp at hi; subst hi; exact ⟨t, c, rfl⟩
          | succ i => exact (g3 i w' (by simpa using hi)).succ
        · cases h
    | is j =>
      simp only [unO] at h
      split at h
      · rename_i f' t' c' l hst
        cases hb : (Nat.beq t t' && f == f') with
        | false => rw [hb] at h; cases h
        | true =>
          rw [hb] at h
          simp only [Bool.and_eq_true, beq_iff_eq] at hb
          have e1 := Nat.eq_of_beq_eq_true hb.1
          have e2 := hb.2
          subst e1 e2
          simp only [cond_true] at h
          split at h
          · rename_i a ha
            obtain ⟨e, ea⟩ := castL_some ha
            subst e
            simp only at ea
            subst ea
            split at h
            · rename_i y hy
              cases h
              obtain ⟨g1, g2, g3⟩ := unO_spec hy
              refine ⟨by simp [g1], by simp [shO, g2], fun i w' hi => ?_⟩
              cases i with
              | zero => simp at hi; subst hi; exact .inr ⟨f, t, c', l, hst, rfl⟩
              | succ i => exact (g3 i w' (by simpa using hi)).succ
            · cases h
          · cases h
      · cases h
    | cut j n =>
      simp only [unO] at h
      split at h
      · rename_i f' t' c' l hst
        cases hb : (Nat.beq t t' && f == f') with
        | false => rw [hb] at h; cases h
        | true =>
          rw [hb] at h
          simp only [Bool.and_eq_true, beq_iff_eq] at hb
          have e1 := Nat.eq_of_beq_eq_true hb.1
          have e2 := hb.2
          subst e1 e2
          simp only [cond_true] at h
          split at h
          · rename_i a ha
            obtain ⟨e, ea⟩ := castL_some ha
            subst e
            simp only at ea
            subst ea
            split at h
            · rename_i y hy
              cases h
              obtain ⟨g1, g2, g3⟩ := unO_spec hy
              refine ⟨by simp [g1], by simp [shO, g2], fun i w' hi => ?_⟩
              cases i with
              | zero => simp at hi; subst hi; exact ⟨f, t, c', l, hst, rfl⟩
              | succ i => exact (g3 i w' (by simpa using hi)).succ
            · cases h
          · cases h
      · cases h

theorem unO_blks {st : TStore} {st' : TStore} {m0 : List Wh} : ∀ {d : List OTy} {m : List Wh} {x : denO d} {n : Nat}, unO st d m = some x → (∀ (i : Nat) (w : Wh), m[i]? = some w → m0[n + i]? = some w) → (∀ (i : Nat) (o : TObj), (shO d x)[i]? = some o → st'[n + i]? = some o) → Blks st m0 st' n d x
  | [], _, x, n, h, hm, hs => trivial
  | t :: r, [], x, n, h, hm, hs => by cases t <;> simp [unO] at h
  | .blk t cs :: r, w :: m, x, n, h, hm, hs => by
    cases w with
    | is j =>
      simp only [unO] at h
      split at h
      · rename_i t' xs hst
        cases hb : Nat.beq t t' with
        | false => rw [hb] at h; cases h
        | true =>
          rw [hb] at h
          have := Nat.eq_of_beq_eq_true hb
          subst this
          simp only [cond_true] at h
          split at h
          · rename_i a ha
            split at h
            · rename_i y hy
              cases h
              refine ⟨⟨j, xs, hm 0 _ rfl, hst, ha, hs 0 _ rfl⟩, unO_blks hy (fun i w' hi => ?_) (fun i o ho => ?_)⟩
              · rw [show n + 1 + i = n + (i + 1) from by omega]; exact hm (i + 1) w' (by simpa using hi)
              · rw [show n + 1 + i = n + (i + 1) from by omega]; exact hs (i + 1) o (by simpa [shO] using ho)
            · cases h
          · cases h
      · cases h
    | _ => simp [unO] at h
  | .row f t c :: r, w :: m, x, n, h, hm, hs => by
    have next : ∀ (y : denO r) (a : List (El c)), x = (a, y) → unO st r m = some y → Blks st m0 st' n (.row f t c :: r) x := fun y a e hy => by
      subst e
      refine unO_blks (d := r) hy (fun i w' hi => ?_) (fun i o ho => ?_)
      · rw [show n + 1 + i = n + (i + 1) from by omega]; exact hm (i + 1) w' (by simpa using hi)
      · rw [show n + 1 + i = n + (i + 1) from by omega]; exact hs (i + 1) o (by simpa [shO] using ho)
    cases w with
    | no => simp [unO] at h
    | nil =>
      cases f with
      | false => simp [unO] at h
      | true =>
        simp only [unO] at h
        split at h
        · rename_i y hy; exact next y [] (by cases h; rfl) hy
        · cases h
    | is j =>
      simp only [unO] at h
      split at h
      · rename_i f' t' c' l hst
        cases hb : (Nat.beq t t' && f == f') with
        | false => rw [hb] at h; cases h
        | true =>
          rw [hb] at h
          simp only [cond_true] at h
          split at h
          · rename_i a ha
            split at h
            · rename_i y hy; exact next y a (by cases h; rfl) hy
            · cases h
          · cases h
      · cases h
    | cut j k =>
      simp only [unO] at h
      split at h
      · rename_i f' t' c' l hst
        cases hb : (Nat.beq t t' && f == f') with
        | false => rw [hb] at h; cases h
        | true =>
          rw [hb] at h
          simp only [cond_true] at h
          split at h
          · rename_i a ha
            split at h
            · rename_i y hy; exact next y (a.take k) (by cases h; rfl) hy
            · cases h
          · cases h
      · cases h

end Go.Am
