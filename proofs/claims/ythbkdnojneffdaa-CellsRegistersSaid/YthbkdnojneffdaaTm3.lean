/- The typed machine: how typed values stand for abstract ones. -/
import Derived.Test.YthbkdnojneffdaaTm2
namespace Go.Am

def sameK : TObj → TObj → Prop
  | .blk _ _, .blk _ _ => True
  | .row _ _ _ l, .row _ _ _ l' => l'.length = l.length
  | .gone, .gone => True
  | _, _ => False

/-- Values stay what they are. -/
def Keep (ρ ρ' : Rn) (st st' : TStore) : Prop := ∀ (i : Nat) (o : TObj), st[i]? = some o → ∃ o', st'[i]? = some o' ∧ ((o' = .gone) ∨ (ρ' i = ρ i ∧ sameK o o'))

theorem sameK_refl (o : TObj) : sameK o o := by cases o <;> simp [sameK]
theorem Keep.refl (ρ : Rn) (st : TStore) : Keep ρ ρ st st := fun _ o h => ⟨o, h, .inr ⟨rfl, sameK_refl o⟩⟩
theorem Keep.snoc {ρ ρ' : Rn} {st : TStore} (h : ∀ i, i < st.length → ρ' i = ρ i) (l : TStore) : Keep ρ ρ' st (st ++ l) := fun i o ho =>
  have hlt := (List.getElem?_eq_some_iff.1 ho).1
  ⟨o, by rw [List.getElem?_append_left hlt]; exact ho, .inr ⟨h i hlt, sameK_refl o⟩⟩
theorem Keep.trans {ρ ρ' ρ'' : Rn} {st st' st'' : TStore} (h : Keep ρ ρ' st st') (h' : Keep ρ' ρ'' st' st'') : Keep ρ ρ'' st st'' := fun i o ho => by
  obtain ⟨o1, h1, c1⟩ := h i o ho
  obtain ⟨o2, h2, c2⟩ := h' i o1 h1
  refine ⟨o2, h2, ?_⟩
  rcases c2 with c2 | ⟨e2, k2⟩
  · exact .inl c2
  · rcases c1 with c1 | ⟨e1, k1⟩
    · subst c1
      cases o2 <;> simp [sameK] at k2
      exact .inl rfl
    · refine .inr ⟨e2.trans e1, ?_⟩
      cases o <;> cases o1 <;> cases o2 <;> simp_all [sameK]

theorem stale_own (j o n : Nat) : stale (.own j o n) := .inr ⟨j, o, n, rfl⟩

mutual
theorem UnV_keep {ρ ρ' : Rn} {st st' : TStore} (hk : Keep ρ ρ' st st') : ∀ (x : TV) (y : AV), UnV ρ st x y → UnV ρ' st' x y
  | .int .., _, h | .b _, _, h | .s _, _, h | .v _, _, h | .shut, _, h | .nils, _, h | .vs .., _, h | .eptr .., _, h | .opt .., _, h | .fn _, _, h => by simp only [UnV] at h ⊢; exact h
  | .und, _, _ => by simp only [UnV]
  | .agg cs, y, h => by
    simp only [UnV] at h ⊢
    obtain ⟨ys, h1, h2⟩ := h
    exact ⟨ys, h1, UnL_keep hk cs ys h2⟩
  | .tup cs, y, h => by
    simp only [UnV] at h ⊢
    obtain ⟨ys, h1, h2⟩ := h
    exact ⟨ys, h1, UnL_keep hk cs ys h2⟩
  | .ow i, y, h => by
    simp only [UnV] at h ⊢
    cases hi : st[i]? with
    | none => rw [hi] at h; exact h.elim
    | some o =>
      obtain ⟨o', ho', hc⟩ := hk i o hi
      rw [hi] at h
      rw [ho']
      rcases hc with rfl | ⟨e, hs⟩
      · cases o with
        | row f t c l => simp only at h ⊢; split at h <;> subst h <;> simp [stale]
        | blk _ _ => exact h
        | gone => exact h
      · cases o <;> cases o' <;> simp_all [sameK]
  | .own i a b, y, h => by
    simp only [UnV] at h ⊢
    cases hi : st[i]? with
    | none => rw [hi] at h; exact h.elim
    | some o =>
      obtain ⟨o', ho', hc⟩ := hk i o hi
      rw [hi] at h
      rw [ho']
      rcases hc with rfl | ⟨e, hs⟩
      · cases o with
        | row f t c l => simp only at h ⊢; have h := h.2; split at h <;> subst h <;> simp [stale]
        | blk _ _ => exact h
        | gone => exact h
      · cases o <;> cases o' <;> simp_all [sameK]
  | .ptr i a, y, h => by
    simp only [UnV] at h ⊢
    cases hi : st[i]? with
    | none => rw [hi] at h; exact h.elim
    | some o =>
      obtain ⟨o', ho', hc⟩ := hk i o hi
      rw [hi] at h
      rw [ho']
      rcases hc with rfl | ⟨e, hs⟩
      · cases o with
        | blk t cs => obtain ⟨j, _, h⟩ := h; exact ⟨j, h⟩
        | _ => exact h
      · cases o <;> cases o' <;> simp_all [sameK]
  | .rptr i a b, y, h => by
    simp only [UnV] at h ⊢
    cases hi : st[i]? with
    | none => rw [hi] at h; exact h.elim
    | some o =>
      obtain ⟨o', ho', hc⟩ := hk i o hi
      rw [hi] at h
      rw [ho']
      rcases hc with rfl | ⟨e, hs⟩
      · cases o with
        | row f t c l => obtain ⟨j, _, h⟩ := h; exact ⟨j, h⟩
        | _ => exact h
      · cases o <;> cases o' <;> simp_all [sameK]
theorem UnL_keep {ρ ρ' : Rn} {st st' : TStore} (hk : Keep ρ ρ' st st') : ∀ (xs : List TV) (ys : List AV), UnL ρ st xs ys → UnL ρ' st' xs ys
  | [], _, h => by simpa only [UnL] using h
  | x :: xs, ys, h => by
    simp only [UnL] at h ⊢
    obtain ⟨z, zs, h1, h2, h3⟩ := h
    exact ⟨z, zs, h1, UnV_keep hk x z h2, UnL_keep hk xs zs h3⟩
end

section
variable {ρ : Rn} {st : TStore}

theorem UnL_nil : UnL ρ st [] [] := by simp [UnL]
theorem UnL_cons {x : TV} {y : AV} {xs : List TV} {ys : List AV} (h : UnV ρ st x y) (h' : UnL ρ st xs ys) : UnL ρ st (x :: xs) (y :: ys) := by
  simp only [UnL]; exact ⟨y, ys, rfl, h, h'⟩
theorem UnL_cons_inv {x : TV} {xs : List TV} {ys : List AV} (h : UnL ρ st (x :: xs) ys) : ∃ z zs, ys = z :: zs ∧ UnV ρ st x z ∧ UnL ρ st xs zs := by simpa only [UnL] using h
theorem UnL_len : ∀ {xs : List TV} {ys : List AV}, UnL ρ st xs ys → ys.length = xs.length
  | [], _, h => by simp only [UnL] at h; subst h; rfl
  | _ :: _, _, h => by obtain ⟨z, zs, rfl, _, h3⟩ := UnL_cons_inv h; simp [UnL_len h3]
theorem UnL_get : ∀ {xs : List TV} {ys : List AV}, UnL ρ st xs ys → ∀ {i : Nat} {x : TV}, xs[i]? = some x → ∃ y, ys[i]? = some y ∧ UnV ρ st x y
  | [], _, _, i, x, hx => by simp at hx
  | a :: xs, _, h, i, x, hx => by
    obtain ⟨z, zs, rfl, h2, h3⟩ := UnL_cons_inv h
    cases i with
    | zero => simp at hx; subst hx; exact ⟨z, rfl, h2⟩
    | succ i => simpa using UnL_get h3 (i := i) (by simpa using hx)
theorem UnL_append : ∀ {xs : List TV} {ys : List AV} {xs' : List TV} {ys' : List AV}, UnL ρ st xs ys → UnL ρ st xs' ys' → UnL ρ st (xs ++ xs') (ys ++ ys')
  | [], _, _, _, h, h' => by simp only [UnL] at h; subst h; exact h'
  | a :: xs, _, _, _, h, h' => by
    obtain ⟨z, zs, rfl, h2, h3⟩ := UnL_cons_inv h
    exact UnL_cons h2 (UnL_append h3 h')
theorem UnL_take : ∀ {xs : List TV} {ys : List AV} (n : Nat), UnL ρ st xs ys → UnL ρ st (xs.take n) (ys.take n)
  | [], _, n, h => by simp only [UnL] at h; subst h; simpa using UnL_nil
  | a :: xs, _, 0, _ => by simpa using UnL_nil
  | a :: xs, _, n + 1, h => by
    obtain ⟨z, zs, rfl, h2, h3⟩ := UnL_cons_inv h
    exact UnL_cons h2 (UnL_take n h3)
theorem UnL_drop : ∀ {xs : List TV} {ys : List AV} (n : Nat), UnL ρ st xs ys → UnL ρ st (xs.drop n) (ys.drop n)
  | [], _, n, h => by simp only [UnL] at h; subst h; simpa using UnL_nil
  | a :: xs, _, 0, h => by simpa using h
  | a :: xs, _, n + 1, h => by
    obtain ⟨z, zs, rfl, h2, h3⟩ := UnL_cons_inv h
    exact UnL_drop n h3
theorem UnL_set : ∀ {xs : List TV} {ys : List AV} (n : Nat) {x : TV} {y : AV}, UnL ρ st xs ys → UnV ρ st x y → UnL ρ st (xs.set n x) (ys.set n y)
  | [], _, n, _, _, h, _ => by simp only [UnL] at h; subst h; simpa using UnL_nil
  | a :: xs, _, 0, _, _, h, hx => by
    obtain ⟨z, zs, rfl, h2, h3⟩ := UnL_cons_inv h
    exact UnL_cons hx h3
  | a :: xs, _, n + 1, _, _, h, hx => by
    obtain ⟨z, zs, rfl, h2, h3⟩ := UnL_cons_inv h
    exact UnL_cons h2 (UnL_set n h3 hx)
theorem UnL_get_none {xs : List TV} {ys : List AV} (h : UnL ρ st xs ys) {i : Nat} (hx : xs[i]? = none) : ys[i]? = none := by
  rw [List.getElem?_eq_none_iff] at hx ⊢
  rw [UnL_len h]; exact hx

theorem UnV_ofC (x : AV) : UnV ρ st (TV.ofC x) x := by
  unfold TV.ofC
  split <;> simp [UnV]
theorem UnL_ofC : ∀ (l : List AV), UnL ρ st (l.map TV.ofC) l
  | [] => UnL_nil
  | x :: l => UnL_cons (UnV_ofC x) (UnL_ofC l)
theorem UnV_ofA (x : AV) : UnV ρ st (TV.ofA x) x := by
  unfold TV.ofA
  split
  · rename_i cs; simp only [UnV]; exact ⟨cs, rfl, UnL_ofC cs⟩
  · simp [UnV]
  · exact UnV_ofC x

theorem UnV_ev {fr : List TV} {s : AS} (h : UnL ρ st fr s.fr) (x : Opd) : UnV ρ st (evT fr x) (s.ev x) := by
  cases x with
  | c x => exact UnV_ofA x
  | t n =>
    simp only [evT, AS.ev, List.getD]
    cases hn : fr[n]? with
    | none => rw [UnL_get_none h hn]; simp [UnV]
    | some x => obtain ⟨y, h1, h2⟩ := UnL_get h hn; rw [h1]; exact h2

theorem UnV_cells {x : TV} {y : AV} {cs : List TV} (hc : x.cells? = some cs) (h : UnV ρ st x y) : ∃ ys, y.cells? = some ys ∧ UnL ρ st cs ys := by
  have st1 : ∀ {y : AV}, stale y → y.cells? = some [y] := fun {y} hy => by
    rcases hy with rfl | ⟨_, _, _, rfl⟩ <;> rfl
  have fin : ∀ (h1 : UnV ρ st x y), y.cells? = some [y] → cs = [x] → ∃ ys, y.cells? = some ys ∧ UnL ρ st cs ys := fun h1 h2 h3 => by
    subst h3
    exact ⟨[y], h2, UnL_cons h1 UnL_nil⟩
  have h0 := h
  cases x with
  | agg ds =>
    simp only [TV.cells?, Option.some.injEq] at hc
    subst hc
    simp only [UnV] at h
    obtain ⟨ys, rfl, h2⟩ := h
    exact ⟨ys, rfl, h2⟩
  | v x =>
    simp only [UnV] at h
    subst h
    unfold TV.cells? at hc
    split at hc <;> simp_all
    subst hc
    exact ⟨_, by unfold AV.cells?; split <;> simp_all, UnL_cons h0 UnL_nil⟩
  | tup cs => simp [TV.cells?] at hc
  | und => simp [TV.cells?] at hc
  | shut => simp [TV.cells?] at hc
  | int k n => simp only [TV.cells?, Option.some.injEq] at hc; simp only [UnV] at h; subst h; exact fin h0 rfl hc.symm
  | b x => simp only [TV.cells?, Option.some.injEq] at hc; simp only [UnV] at h; subst h; exact fin h0 rfl hc.symm
  | s x => simp only [TV.cells?, Option.some.injEq] at hc; simp only [UnV] at h; subst h; exact fin h0 rfl hc.symm
  | nils => simp only [TV.cells?, Option.some.injEq] at hc; simp only [UnV] at h; subst h; exact fin h0 rfl hc.symm
  | vs c l =>
    simp only [TV.cells?, Option.some.injEq] at hc
    simp only [UnV] at h
    rcases h with rfl | ⟨_, rfl⟩ <;> exact fin h0 rfl hc.symm
  | eptr c x o => simp only [TV.cells?, Option.some.injEq] at hc; simp only [UnV] at h; subst h; exact fin h0 rfl hc.symm
  | fn f => simp only [TV.cells?, Option.some.injEq] at hc; simp only [UnV] at h; subst h; exact fin h0 rfl hc.symm
  | opt c o =>
    simp only [TV.cells?, Option.some.injEq] at hc
    simp only [UnV] at h
    cases o <;> (simp only at h; subst h; exact fin h0 rfl hc.symm)
  | ow i =>
    simp only [TV.cells?, Option.some.injEq] at hc
    refine fin h0 ?_ hc.symm
    simp only [UnV] at h
    split at h
    · split at h <;> subst h <;> rfl
    · exact st1 h
    · exact h.elim
  | own i a b =>
    simp only [TV.cells?, Option.some.injEq] at hc
    refine fin h0 ?_ hc.symm
    simp only [UnV] at h
    split at h
    · have h := h.2; split at h <;> subst h <;> rfl
    · exact st1 h
    · exact h.elim
  | ptr i a =>
    simp only [TV.cells?, Option.some.injEq] at hc
    refine fin h0 ?_ hc.symm
    simp only [UnV] at h
    split at h
    · obtain ⟨j, _, rfl⟩ := h; rfl
    · obtain ⟨j, rfl⟩ := h; rfl
    · exact h.elim
  | rptr i a b =>
    simp only [TV.cells?, Option.some.injEq] at hc
    refine fin h0 ?_ hc.symm
    simp only [UnV] at h
    split at h
    · obtain ⟨j, _, rfl⟩ := h; rfl
    · obtain ⟨j, rfl⟩ := h; rfl
    · exact h.elim

theorem UnV_one {x : TV} {y : AV} (hc : x.one = true) (h : UnV ρ st x y) : y.one = true := by
  have st1 : ∀ {y : AV}, stale y → y.one = true := fun {y} hy => by
    rcases hy with rfl | ⟨_, _, _, rfl⟩ <;> rfl
  cases x with
  | agg ds => simp [TV.one] at hc
  | tup cs => simp [TV.one] at hc
  | und => simp [TV.one] at hc
  | shut => simp [TV.one] at hc
  | v x => simp only [UnV] at h; subst h; unfold TV.one at hc; unfold AV.one; split at hc <;> simp_all
  | vs c l => simp only [UnV] at h; rcases h with rfl | ⟨_, rfl⟩ <;> rfl
  | opt c o => simp only [UnV] at h; cases o <;> (simp only at h; subst h; rfl)
  | ow i =>
    simp only [UnV] at h
    split at h
    · split at h <;> subst h <;> rfl
    · exact st1 h
    · exact h.elim
  | own i a b =>
    simp only [UnV] at h
    split at h
    · have h := h.2; split at h <;> subst h <;> rfl
    · exact st1 h
    · exact h.elim
  | ptr i a =>
    simp only [UnV] at h
    split at h
    · obtain ⟨j, _, rfl⟩ := h; rfl
    · obtain ⟨j, rfl⟩ := h; rfl
    · exact h.elim
  | rptr i a b =>
    simp only [UnV] at h
    split at h
    · obtain ⟨j, _, rfl⟩ := h; rfl
    · obtain ⟨j, rfl⟩ := h; rfl
    · exact h.elim
  | _ => simp only [UnV] at h; subst h; rfl
theorem UnL_one : ∀ {xs : List TV} {ys : List AV}, xs.all TV.one = true → UnL ρ st xs ys → ys.all AV.one = true
  | [], _, _, h => by simp only [UnL] at h; subst h; rfl
  | a :: xs, _, hc, h => by
    obtain ⟨z, zs, rfl, h2, h3⟩ := UnL_cons_inv h
    simp only [List.all_cons, Bool.and_eq_true] at hc ⊢
    exact ⟨UnV_one hc.1 h2, UnL_one hc.2 h3⟩

/-- All cells are of one cell. -/
theorem UnL_splice {cs new : List TV} {ys zs : List AV} (off : Nat) (h : UnL ρ st cs ys) (h' : UnL ρ st new zs) : UnL ρ st (spliceT cs off new) (splice ys off zs) := by
  unfold spliceT splice
  rw [UnL_len h']
  exact UnL_append (UnL_append (UnL_take off h) h') (UnL_drop _ h)

theorem UnV_getCells {agg : Bool} {sz off : Nat} {cs : List TV} {ys : List AV} {v : TV} (h : UnL ρ st cs ys) (hg : getCellsT agg sz cs off = some v) : ∃ y, getCells agg sz ys off = some y ∧ UnV ρ st v y := by
  unfold getCellsT at hg
  unfold getCells
  cases agg with
  | true =>
    simp only [cond_true] at hg
    cases hb : Nat.ble (off + sz) cs.length with
    | false => rw [hb] at hg; cases hg
    | true =>
      rw [hb] at hg
      simp only [cond_true, Option.some.injEq] at hg
      subst hg
      have hle : off + sz ≤ ys.length := by rw [UnL_len h]; exact Nat.le_of_ble_eq_true hb
      simp only [if_true, hle]
      refine ⟨_, rfl, ?_⟩
      simp only [UnV]
      exact ⟨_, rfl, UnL_take sz (UnL_drop off h)⟩
  | false =>
    simp only [cond_false] at hg
    obtain ⟨y, h1, h2⟩ := UnL_get h hg
    simp only [Bool.false_eq_true, if_false]
    exact ⟨y, h1, h2⟩

theorem UnL_enc (c : Cd) (x : El c) : UnL ρ st (enc c x) (encA c x) := by
  cases c <;> simp only [enc, encA, intA, Val.encA, Cel.encA, Alt.encA, Slot.encA] <;> (repeat' (apply UnL_cons)) <;> (try exact UnL_nil) <;> simp only [UnV] <;> first | trivial | (left; rfl)

theorem fill_sound {fr : List TV} {s : AS} (h : UnL ρ st fr s.fr) : ∀ {ps : List (Nat × Nat × Opd)} {z : List TV} {z' : List AV} {cs : List TV}, UnL ρ st z z' → fillT (evT fr) z ps = some cs → ∃ ys, fillA s.ev z' ps = some ys ∧ UnL ρ st cs ys
  | [], z, z', cs, hz, hf => by simp only [fillT, Option.some.injEq] at hf; subst hf; exact ⟨z', rfl, hz⟩
  | (off, sz, x) :: r, z, z', cs, hz, hf => by
    simp only [fillT] at hf
    split at hf
    · rename_i ds hds
      obtain ⟨ys, h1, h2⟩ := UnV_cells hds (UnV_ev h x)
      cases hb : (Nat.beq ds.length sz && Nat.ble (off + sz) z.length) with
      | false => rw [hb] at hf; cases hf
      | true =>
        rw [hb] at hf
        simp only [Bool.and_eq_true] at hb
        obtain ⟨qs, q1, q2⟩ := fill_sound h (UnL_splice off hz h2) hf
        refine ⟨qs, ?_, q2⟩
        simp only [fillA, h1]
        rw [if_pos ⟨by rw [UnL_len h2]; exact Nat.eq_of_beq_eq_true hb.1, by rw [UnL_len hz]; exact Nat.le_of_ble_eq_true hb.2⟩]
        exact q1
    · cases hf

end
end Go.Am
