/- The typed machine: slices and their contents. -/
import Derived.Test.YthbkdnojneffdaaTm3
namespace Go.Am

theorem castL_some {c c' : Cd} {l : List (El c)} {l' : List (El c')} (h : castL c c' l = some l') : ∃ e : c = c', e ▸ l = l' := by
  unfold castL at h
  split at h
  · rename_i e; exact ⟨e, by simpa using h⟩
  · cases h

theorem encA_len (c : Cd) (x : El c) : (encA c x).length = szC c := by
  cases c <;> simp [encA, szC, intA, Val.encA, Cel.encA, Alt.encA, Slot.encA]

section
variable {ρ : Rn} {st : TStore} {s : Store}

theorem UnSt.row (h : UnSt ρ st s) {i : Nat} {f : Bool} {t : TypeId} {c : Cd} {l : List (El c)} (hi : st[i]? = some (.row f t c l)) {j : Nat} (hj : ρ i = some j) : ∃ f' es, s[j]? = some (.row f' t (szC c) (l.map (encA c) ++ es)) ∧ (f = true → f' = true) := by
  have := h.obj i _ hi
  simp only [UnO, hj] at this
  exact this
theorem UnSt.row_nil (h : UnSt ρ st s) {i : Nat} {f : Bool} {t : TypeId} {c : Cd} {l : List (El c)} (hi : st[i]? = some (.row f t c l)) (hj : ρ i = none) : l = [] := by
  have := h.obj i _ hi
  simp only [UnO, hj] at this
  exact this
theorem UnSt.blk (h : UnSt ρ st s) {i : Nat} {t : TypeId} {cs : List TV} (hi : st[i]? = some (.blk t cs)) : ∃ j ys, ρ i = some j ∧ s[j]? = some (.blk t ys) ∧ UnL ρ st cs ys := h.obj i _ hi

/-- What a slice holds, abstractly. -/
theorem content_sound (h : UnSt ρ st s) {c : Cd} {x : TV} {y : AV} {l : List (El c)} (hx : UnV ρ st x y) (hc : contentT st c x = some l) : content s y = some (l.map (encA c)) := by
  cases x <;> simp only [contentT, reduceCtorEq] at hc
  case nils => cases hc; simp only [UnV] at hx; subst hx; rfl
  case vs c' l' =>
    obtain ⟨rfl, rfl⟩ := castL_some hc
    simp only [UnV] at hx
    rcases hx with rfl | ⟨rfl, rfl⟩ <;> rfl
  case ow i =>
    split at hc
    · rename_i f t c' l' hi
      obtain ⟨rfl, rfl⟩ := castL_some hc
      simp only [UnV, hi] at hx
      cases hj : ρ i with
      | none =>
        rw [hj] at hx
        have := h.row_nil hi hj
        subst hx this
        rfl
      | some j =>
        rw [hj] at hx
        obtain ⟨f', es, h1, _⟩ := h.row hi hj
        subst hx
        simp [content, h1]
    · cases hc
  case own i o n =>
    split at hc
    · rename_i f t c' l' hi
      obtain ⟨rfl, rfl⟩ := castL_some hc
      simp only [UnV, hi] at hx
      obtain ⟨hle, hx⟩ := hx
      cases hj : ρ i with
      | none =>
        rw [hj] at hx
        have := h.row_nil hi hj
        subst hx this
        simp [content]
      | some j =>
        rw [hj] at hx
        obtain ⟨f', es, h1, _⟩ := h.row hi hj
        subst hx
        simp only [content, h1]
        rw [if_pos (by simp; omega)]
        congr 1
        rw [List.drop_append_of_le_length (by simp; omega), List.take_append_of_le_length (by simp; omega), List.map_take, List.map_drop]
    · cases hc

/-- A cell as it is kept: what its abstract form is. -/
def RcV : TV → AV → Prop
  | .int k n, y => y = .v (.int k n)
  | .b x, y => y = .v (.bool x)
  | .s x, y => y = .v (.string x)
  | .vs c l, y => y = .vs (l.map (encA c))
  | .nils, y => y = .vs []
  | _, _ => False
def RcL : List TV → List AV → Prop
  | [], ys => ys = []
  | c :: r, ys => ∃ z zs, ys = z :: zs ∧ RcV c z ∧ RcL r zs

theorem reC_sound (h : UnSt ρ st s) {x x' : TV} {y : AV} (hx : UnV ρ st x y) (hr : reC st x = some x') : ∃ z, reifyC s y = some z ∧ RcV x' z := by
  cases x <;> simp only [reC, reduceCtorEq] at hr
  case int k n => cases hr; simp only [UnV] at hx; subst hx; exact ⟨_, rfl, rfl⟩
  case b x => cases hr; simp only [UnV] at hx; subst hx; exact ⟨_, rfl, rfl⟩
  case s x => cases hr; simp only [UnV] at hx; subst hx; exact ⟨_, rfl, rfl⟩
  case nils => cases hr; simp only [UnV] at hx; subst hx; exact ⟨_, rfl, rfl⟩
  case vs c l =>
    cases hr
    simp only [UnV] at hx
    rcases hx with rfl | ⟨rfl, rfl⟩ <;> exact ⟨_, rfl, rfl⟩
  case ow i =>
    split at hr
    · rename_i f t c l hi
      cases hr
      have hc := content_sound (c := c) (l := l) h hx (by simp [contentT, hi, castL])
      simp only [UnV, hi] at hx
      cases hj : ρ i with
      | none => rw [hj] at hx; have := h.row_nil hi hj; subst hx this; exact ⟨_, rfl, rfl⟩
      | some j => rw [hj] at hx; subst hx; exact ⟨_, by simp only [reifyC, hc]; rfl, rfl⟩
    · cases hr
  case own i o n =>
    split at hr
    · rename_i f t c l hi
      cases hr
      have hc := content_sound (c := c) (l := (l.drop o).take n) h hx (by simp [contentT, hi, castL])
      simp only [UnV, hi] at hx
      cases hj : ρ i with
      | none => rw [hj] at hx; have := h.row_nil hi hj; obtain ⟨_, hx⟩ := hx; subst hx this; exact ⟨_, rfl, by simp [RcV]⟩
      | some j => rw [hj] at hx; obtain ⟨_, hx⟩ := hx; subst hx; exact ⟨_, by simp only [reifyC, hc]; rfl, rfl⟩
    · cases hr

theorem reL_sound (h : UnSt ρ st s) : ∀ {cs ds : List TV} {ys : List AV}, UnL ρ st cs ys → reL st cs = some ds → ∃ zs, reifyL s ys = some zs ∧ RcL ds zs
  | [], ds, ys, hu, hr => by simp only [reL, Option.some.injEq] at hr; subst hr; simp only [UnL] at hu; subst hu; exact ⟨[], rfl, rfl⟩
  | c :: cs, ds, ys, hu, hr => by
    obtain ⟨z, zs, rfl, h1, h2⟩ := UnL_cons_inv hu
    simp only [reL] at hr
    split at hr
    · rename_i x hx
      split at hr
      · rename_i xs hxs
        cases hr
        obtain ⟨a, a1, a2⟩ := reC_sound h h1 hx
        obtain ⟨as, b1, b2⟩ := reL_sound h h2 hxs
        exact ⟨a :: as, by simp [reifyL, a1, b1], a, as, rfl, a2, b2⟩
      · cases hr
    · cases hr

theorem vsOf_sound {c : Cd} {x : TV} {y : AV} {l : List (El c)} (h : RcV x y) (hv : vsOf c x = some l) : y = .vs (l.map (encA c)) := by
  cases x <;> simp only [vsOf, reduceCtorEq] at hv
  case nils => cases hv; exact h
  case vs c' l' =>
    split at hv
    · rename_i e; subst e; cases hv; exact h
    · cases hv

theorem encA_int : encA .int = intA := rfl
theorem encA_cell : encA .cell = Cel.encA := rfl
theorem encA_alt : encA .alt = Alt.encA := rfl
theorem encA_slot : encA .slot = Slot.encA := rfl

theorem RcL_cons {x : TV} {xs : List TV} {ys : List AV} (h : RcL (x :: xs) ys) : ∃ z zs, ys = z :: zs ∧ RcV x z ∧ RcL xs zs := h

theorem dec_sound {c : Cd} {ds : List TV} {zs : List AV} {x : El c} (h : RcL ds zs) (hd : dec c ds = some x) : zs = encA c x := by
  unfold dec at hd
  split at hd
  case h_1 =>
    obtain ⟨z0, _, rfl, h0, h⟩ := h
    simp only [RcV, RcL] at h0 h
    cases hd
    subst h0 h
    rfl
  case h_2 =>
    obtain ⟨z0, _, rfl, h0, h⟩ := h
    simp only [RcV, RcL] at h0 h
    cases hd
    subst h0 h
    rfl
  case h_3 =>
    obtain ⟨z0, _, rfl, h0, h⟩ := h
    simp only [RcV, RcL] at h0 h
    cases hd
    subst h0 h
    rfl
  case h_4 =>
    obtain ⟨z0, _, rfl, h0, h⟩ := h
    simp only [RcV, RcL] at h0 h
    cases hd
    subst h0 h
    rfl
  case h_5 =>
    obtain ⟨z0, _, rfl, h0, h⟩ := h
    simp only [RcV, RcL] at h0 h
    cases hd
    subst h0 h
    rfl
  case h_6 =>
    obtain ⟨z0, _, rfl, h0, z1, _, rfl, h1, z2, _, rfl, h2, z3, _, rfl, h3, h⟩ := h
    simp only [RcV, RcL] at h0 h1 h2 h3 h
    cases hd
    subst h0 h1 h2 h3 h
    rfl
  case h_7 =>
    obtain ⟨z0, _, rfl, h0, z1, _, rfl, h1, z2, _, rfl, h2, z3, _, rfl, h3, z4, _, rfl, h4, z5, _, rfl, h5, h⟩ := h
    simp only [RcV, RcL] at h0 h1 h2 h3 h4 h5 h
    cases hd
    subst h0 h1 h2 h3 h4 h5 h
    rfl
  case h_8 =>
    obtain ⟨z0, _, rfl, h0, z1, _, rfl, h1, z2, _, rfl, h2, z3, _, rfl, h3, z4, _, rfl, h4, h⟩ := h
    simp only [RcV, RcL] at h0 h1 h2 h3 h4 h
    cases hd
    subst h0 h1 h2 h3 h4 h
    rfl
  case h_9 =>
    obtain ⟨z0, _, rfl, h0, z1, _, rfl, h1, z2, _, rfl, h2, h⟩ := h
    simp only [RcV, RcL] at h0 h1 h
    simp only [Option.map_eq_some_iff] at hd
    obtain ⟨l, hl, rfl⟩ := hd
    have e := vsOf_sound h2 hl
    subst h0 h1 e h
    rfl
  case h_10 =>
    obtain ⟨z0, _, rfl, h0, z1, _, rfl, h1, h⟩ := h
    simp only [RcV, RcL] at h0 h1 h
    cases hd
    subst h0 h1 h
    rfl
  case h_11 =>
    obtain ⟨z0, _, rfl, h0, z1, _, rfl, h1, z2, _, rfl, h2, z3, _, rfl, h3, z4, _, rfl, h4, h⟩ := h
    simp only [RcV, RcL] at h0 h3 h
    split at hd
    · rename_i p q w e1 e2 e3
      cases hd
      have e1 := vsOf_sound h1 e1
      have e2 := vsOf_sound h2 e2
      have e3 := vsOf_sound h4 e3
      subst h0 e1 e2 h3 e3 h
      rfl
    · cases hd
  case h_12 =>
    obtain ⟨z0, _, rfl, h0, z1, _, rfl, h1, z2, _, rfl, h2, h⟩ := h
    simp only [RcV, RcL] at h0 h1 h2 h
    cases hd
    subst h0 h1 h2 h
    rfl
  case h_13 =>
    obtain ⟨z0, _, rfl, h0, h⟩ := h
    simp only [RcV, RcL] at h
    have e := vsOf_sound h0 hd
    subst e h
    rfl
  case h_14 =>
    obtain ⟨z0, _, rfl, h0, z1, _, rfl, h1, h⟩ := h
    simp only [RcV, RcL] at h
    unfold b2 at hd
    split at hd
    · rename_i a e1
      split at hd
      · rename_i b e2
        cases hd
        have e1 := vsOf_sound h0 e1
        have e2 := vsOf_sound h1 e2
        subst e1 e2 h
        rfl
      · cases hd
    · cases hd
  case h_15 =>
    obtain ⟨z0, _, rfl, h0, z1, _, rfl, h1, z2, _, rfl, h2, h⟩ := h
    simp only [RcV, RcL] at h0 h1 h2 h
    cases hd
    subst h0 h1 h2 h
    rfl
  case h_16 =>
    obtain ⟨z0, _, rfl, h0, h⟩ := h
    simp only [RcV, RcL] at h
    have e := vsOf_sound h0 hd
    subst e h
    rfl
  case h_17 => cases hd

end
end Go.Am
