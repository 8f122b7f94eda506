/- Cells: what is computed is what is said (4). -/
import Derived.Test.YthbkdnojneffdaaL12c
namespace Go.Am

theorem val_beq (a b : Val) : (a.n == b.n && (a.flag == b.flag && (a.text == b.text && (a.ref == b.ref && true)))) = a.beq b := rfl

theorem cells_Diff.run (a b : List Cel) (hl : a.length + b.length < lim) : cells_Diff.F iter a b = some (diffB a b) := by
  unfold lim at hl
  unfold cells_Diff.F
  have e1 : decide (a.length < (4611686018427387904 : Nat)) = true := by simp; omega
  have e2 : decide (b.length < (4611686018427387904 : Nat)) = true := by simp; omega
  rw [e1, e2, cond_true, cond_true]
  cases hv : validB a
  · simp [diffB, hv]
  cases hw : validB b
  · simp [diffB, hv, hw]
  have e : diffB a b = diff a b := by simp [diffB, hv, hw]
  rw [e]
  simp only [Bool.not_true, cond_false]
  refine run_go (fun g : List Cel × List Cel × List Cel => ((g.1, g.2.1, ()), g.2.2, ())) (fun g => g.1.length + g.2.1.length + g.2.2.length ≤ a.length + b.length ∧ diff a b = g.2.2 ++ diff g.1 g.2.1) (fun g => g.1.length + g.2.1.length) (a, b, []) ⟨by simp, rfl⟩ ?_
  rintro ⟨x0, x1, acc⟩ ⟨hlen, hI⟩
  simp only at hlen hI
  simp only [cells_Diff.B0, val_beq]
  have r : ∀ e, x0.length + x1.length ≠ 0 → decide ((acc.length + [e].length) * (56 : Nat) ≤ (16777216 : Nat)) = true := fun e _ => room56 acc (e : Cel) (by omega)
  cases x0 with
  | nil =>
    cases x1 with
    | nil =>
      refine goes_done ?_
      rw [hI, diff_nil_l]; simp
    | cons y q =>
      have e3 : decide ((0 : Int) < ((([] : List Cel).length : Nat) : Int)) = false := rfl
      have e4 : decide ((0 : Int) < (((y :: q).length : Nat) : Int)) = true := by simp
      have e5 : ((((y :: q).length : Nat) : Int) == (0 : Int)) = false := by simp; omega
      have e6 : (((([] : List Cel).length : Nat) : Int) == (0 : Int)) = true := rfl
      have e7 : decide ((1 : Int) ≤ (((y :: q).length : Nat) : Int)) = true := by simp; omega
      simp only [e3, e4, e5, e6, e7, cond_true, cond_false, getI_zero, opt?_some, r _ (by simp)]
      rw [diff_nil_l] at hI
      exact goes_next ⟨([], q, acc ++ [y]), rfl, ⟨by simp at hlen ⊢; omega, by simp only; rw [hI, diff_nil_l]; simp⟩, by simp⟩
  | cons x p =>
    have e3 : decide ((0 : Int) < (((x :: p).length : Nat) : Int)) = true := by simp
    have e4 : decide ((1 : Int) ≤ (((x :: p).length : Nat) : Int)) = true := by simp; omega
    have e5 : ((((x :: p).length : Nat) : Int) == (0 : Int)) = false := by simp; omega
    cases x1 with
    | nil =>
      have e6 : (((([] : List Cel).length : Nat) : Int) == (0 : Int)) = true := rfl
      simp only [e3, e4, e6, cond_true, getI_zero, opt?_some, r _ (by simp)]
      rw [diff_nil_r] at hI
      exact goes_next ⟨(p, [], acc ++ [⟨x.id, x.field, Val.zero⟩]), rfl, ⟨by simp at hlen ⊢; omega, by simp only; rw [hI]; simp⟩, by simp⟩
    | cons y q =>
      have e6 : ((((y :: q).length : Nat) : Int) == (0 : Int)) = false := by simp; omega
      have e7 : decide ((1 : Int) ≤ (((y :: q).length : Nat) : Int)) = true := by simp; omega
      simp only [e3, e4, e5, e6, e7, cond_true, cond_false, getI_zero, opt?_some, r _ (by simp)]
      rw [diff_cons] at hI
      rcases Int.lt_trichotomy (cmpC x y) 0 with h | h | h
      · have h1 : decide (cmpC x y < 0) = true := by simp [h]
        have h2 : decide (cmpC x y ≤ 0) = true := by simp; omega
        have h3 : decide ((0 : Int) ≤ cmpC x y) = false := by simp; omega
        simp only [h1, h2, h3, cond_true, cond_false]
        rw [if_pos h] at hI
        exact goes_next ⟨(p, y :: q, acc ++ [⟨x.id, x.field, Val.zero⟩]), rfl, ⟨by simp at hlen ⊢; omega, by simp only; rw [hI]; simp⟩, by simp⟩
      · have h1 : decide (cmpC x y < 0) = false := by simp; omega
        have h2 : decide (cmpC x y ≤ 0) = true := by simp; omega
        have h3 : decide ((0 : Int) ≤ cmpC x y) = true := by simp; omega
        have h4 : decide ((0 : Int) < cmpC x y) = false := by simp; omega
        simp only [h1, h2, h3, h4, cond_true, cond_false]
        rw [if_neg (by omega), if_pos h] at hI
        refine goes_cond (fun h5 => ?_) (fun h5 => ?_)
        · have h5 : x.v.beq y.v = false := by simpa using h5
          exact goes_next ⟨(p, q, acc ++ [y]), rfl, ⟨by simp at hlen ⊢; omega, by simp only; rw [hI, h5]; simp⟩, by simp; omega⟩
        · have h5 : x.v.beq y.v = true := by simpa using h5
          exact goes_next ⟨(p, q, acc), rfl, ⟨by simp at hlen ⊢; omega, by simp only; rw [hI, h5]; simp⟩, by simp; omega⟩
      · have h1 : decide (cmpC x y < 0) = false := by simp; omega
        have h2 : decide (cmpC x y ≤ 0) = false := by simp; omega
        have h3 : decide ((0 : Int) ≤ cmpC x y) = true := by simp; omega
        have h4 : decide ((0 : Int) < cmpC x y) = true := by simp; omega
        simp only [h1, h2, h3, h4, cond_true, cond_false]
        rw [if_neg (by omega), if_neg (by omega)] at hI
        exact goes_next ⟨(x :: p, q, acc ++ [y]), rfl, ⟨by simp at hlen ⊢; omega, by simp only; rw [hI]; simp⟩, by simp⟩
theorem cells_Diff.ok {t : TypeId} (a : dens (cells_Diff.sp t).ps) (ha : (cells_Diff.sp t).pre a = true) : cells_Diff.G iter a = some ((cells_Diff.sp t).fn a) := cells_Diff.run a.1 a.2.1 (of_decide_eq_true ha)

theorem refDiff_at (a b : List Cel) {l : List Cel} {k : Nat} (h : k < l.length) : refDiff a b (l.drop k) = if (getB l[k].id l[k].field b).beq (getB l[k].id l[k].field a) then refDiff a b (l.drop (k + 1)) else ⟨l[k].id, l[k].field, getB l[k].id l[k].field b⟩ :: refDiff a b (l.drop (k + 1)) := by
  rw [drop_cons h]; rfl

theorem ref12_Diff.run (a b : List Cel) (hl : a.length + b.length < lim) : ref12_Diff.F iter a b = some (diffB a b) := by
  unfold lim at hl
  rw [diff_ref]
  unfold ref12_Diff.F
  have e1 : decide (a.length < (4611686018427387904 : Nat)) = true := by simp; omega
  have e2 : decide (b.length < (4611686018427387904 : Nat)) = true := by simp; omega
  have e3 : decide (a.length + b.length < (100000 : Nat)) = true := by simp; omega
  rw [e1, e2, e3, cond_true, cond_true, cond_true]
  cases hv : validB a
  · simp [rdiffB, hv]
  cases hw : validB b
  · simp [rdiffB, hv, hw]
  have e : rdiffB a b = refDiff a b (over a b) := by simp [rdiffB, hv, hw]
  rw [e]
  have hol := over_len a b
  generalize over a b = l at *
  simp only [Bool.not_true, cond_false]
  refine run_go (fun g : Nat × List Cel => ((a, b, (g.1 : Int), ()), g.2, l, ())) (fun g => g.1 ≤ l.length ∧ g.2.length ≤ g.1 ∧ refDiff a b l = g.2 ++ refDiff a b (l.drop g.1)) (fun g => l.length - g.1) (0, []) ⟨by simp, by simp, rfl⟩ ?_
  rintro ⟨k, acc⟩ ⟨hk, hc, hI⟩
  simp only at hk hc hI
  simp only [ref12_Diff.B0, val_beq]
  refine goes_cond (fun h => ?_) (fun h => ?_)
  · simp only [decide_eq_true_eq] at h
    have hlt : k < l.length := by omega
    rw [refDiff_at a b hlt] at hI
    simp only [getI_at hlt, getN_at hlt, opt?_some, wsucc k (show k < 9223372036854775807 by omega), room56 acc _ (show acc.length < 100000 by omega), cond_true, e1, e2]
    generalize l[k] = c at *
    refine goes_cond (fun h1 => ?_) (fun h1 => ?_)
    · have h1 : (getB c.id c.field b).beq (getB c.id c.field a) = false := by simpa using h1
      exact goes_next ⟨(k + 1, acc ++ [⟨c.id, c.field, getB c.id c.field b⟩]), rfl, ⟨by simp; omega, by simp; omega, by simp only; rw [hI, h1]; simp⟩, by simp; omega⟩
    · have h1 : (getB c.id c.field b).beq (getB c.id c.field a) = true := by simpa using h1
      exact goes_next ⟨(k + 1, acc), rfl, ⟨by simp; omega, by simp; omega, by simp only; rw [hI, h1]; simp⟩, by simp; omega⟩
  · simp only [decide_eq_false_iff_not] at h
    refine goes_done ?_
    rw [hI, List.drop_eq_nil_of_le (by omega)]; simp [refDiff]
theorem ref12_Diff.ok {t : TypeId} (a : dens (ref12_Diff.sp t).ps) (ha : (ref12_Diff.sp t).pre a = true) : ref12_Diff.G iter a = some ((ref12_Diff.sp t).fn a) := ref12_Diff.run a.1 a.2.1 (of_decide_eq_true ha)

theorem law12_one.ok {t : TypeId} (a : dens (law12_one.sp t).ps) (ha : (law12_one.sp t).pre a = true) : law12_one.G iter a = some ((law12_one.sp t).fn a) := rfl

theorem law12_light.run (a b : List Cel) : law12_light.F iter a b = some (decide (a.length ≤ 200) && decide (b.length ≤ 200)) := by
  unfold law12_light.F
  by_cases h1 : a.length ≤ 200 <;> by_cases h2 : b.length ≤ 200
  all_goals
    have e1 : decide ((a.length : Int) ≤ 200) = decide (a.length ≤ 200) := by simp; omega
    have e2 : decide ((b.length : Int) ≤ 200) = decide (b.length ≤ 200) := by simp; omega
    simp [e1, e2, h1, h2]
theorem law12_light.ok (a : dens law12_light.sp.ps) (ha : law12_light.sp.pre a = true) : law12_light.G iter a = some (law12_light.sp.fn a) := law12_light.run a.1 a.2.1

theorem diff_self (l : List Cel) : diffB l l = [] := by
  rw [diff_ref]
  unfold rdiffB
  split
  · generalize over l l = q
    induction q with
    | nil => rfl
    | cons c r ih => simp only [refDiff, (Val.beq_iff _ _).2 rfl, if_true, ih]
  · rfl
theorem law12_awake.ok (a : dens law12_awake.sp.ps) (ha : law12_awake.sp.pre a = true) : law12_awake.G iter a = some (law12_awake.sp.fn a) := by
  show law12_awake.F iter = some true
  unfold law12_awake.F
  rw [diff_self]
  rfl

theorem sameB_refl (l : List Cel) : sameB l l = true := (sameB_iff l l).2 rfl
theorem law12_CellsPuts.run (l w : List Cel) : law12_CellsPuts.F iter l w = some true := by
  unfold law12_CellsPuts.F
  cases h : (decide (l.length ≤ (200 : Nat)) && decide (w.length ≤ (200 : Nat)))
  · rfl
  simp only [Bool.and_eq_true, decide_eq_true_eq] at h
  have e1 : decide (l.length + w.length < (100000 : Nat)) = true := by simp; omega
  have e2 : decide (w.length + l.length < (100000 : Nat)) = true := by simp; omega
  have e3 : decide ((putB l w).length < (4611686018427387904 : Nat)) = true := by have := putB_len l w; simp; omega
  have e4 : decide ((diffB l w).length < (4611686018427387904 : Nat)) = true := by have := diffB_len l w; simp; omega
  have e5 : decide ((diffB w l).length < (4611686018427387904 : Nat)) = true := by have := diffB_len w l; simp; omega
  simp only [e1, e2, e3, e4, e5, sameB_refl, Bool.not_true, cond_true, cond_false]
theorem law12_CellsPuts.ok (a : dens law12_CellsPuts.sp.ps) (ha : law12_CellsPuts.sp.pre a = true) : law12_CellsPuts.G iter a = some (law12_CellsPuts.sp.fn a) := law12_CellsPuts.run a.1 a.2.1

theorem law12_CellsRegisters.run (l w : List Cel) (i f : Int) : law12_CellsRegisters.F iter l w i f = some true := by
  unfold law12_CellsRegisters.F
  cases h : (decide (l.length ≤ (200 : Nat)) && decide (w.length ≤ (200 : Nat)))
  · rfl
  simp only [Bool.and_eq_true, decide_eq_true_eq] at h
  have e1 : decide (l.length < (4611686018427387904 : Nat)) = true := by simp; omega
  have e2 : decide (w.length < (4611686018427387904 : Nat)) = true := by simp; omega
  have e3 : decide (l.length + w.length < (100000 : Nat)) = true := by simp; omega
  simp only [e1, e2, e3, Bool.not_true, cond_true, cond_false]
  cases hv : validB l
  · rfl
  cases hw : writesB w
  · rfl
  simp only [Bool.not_true, cond_false]
  have e4 : decide ((putB l w).length < (4611686018427387904 : Nat)) = true := by have := putB_len l w; simp; omega
  have hso := ((writes_iff w).1 hw).1
  have hput := get_put' hv hw i f
  have hval := (put_valid hv hw).2
  have hmem := fun (c : Cel) (hc : c ∈ w) => get_mem hv hw hc
  generalize putB l w = x at *
  refine run_go (fun g : Nat × Val => ((w, i, f, (g.1 : Int), ()), x, (g.2.n, g.2.flag, g.2.text, g.2.ref, ()), ())) (fun g => g.1 ≤ w.length ∧ getB i f x = afterB i f g.2 (w.drop g.1)) (fun g => w.length - g.1) (0, getB i f l) ⟨by simp, hput⟩ ?_
  rintro ⟨k, v⟩ ⟨hk, hI⟩
  simp only at hk hI
  simp only [law12_CellsRegisters.B0, val_beq]
  refine goes_cond (fun h => ?_) (fun h => ?_)
  · simp only [decide_eq_true_eq] at h
    have hlt : k < w.length := by omega
    simp only [getI_at hlt, opt?_some, wsucc k (show k < 9223372036854775807 by omega), e4, cond_true]
    have hsd := sorted_drop hso k
    rw [drop_cons hlt] at hI hsd
    rw [after_cons hsd] at hI
    have hg := hmem w[k] (List.getElem_mem hlt)
    generalize w[k] = c at *
    rw [hg, (Val.beq_iff _ _).2 rfl]
    simp only [Bool.not_true, cond_false]
    refine goes_cond (fun h1 => goes_cond (fun h2 => ?_) (fun h2 => ?_)) (fun h1 => ?_)
    · exact goes_next ⟨(k + 1, c.v), rfl, ⟨by simp; omega, by simp only; rw [hI, h1, h2]; rfl⟩, by simp; omega⟩
    · exact goes_next ⟨(k + 1, v), rfl, ⟨by simp; omega, by simp only; rw [hI, h1, h2]; rfl⟩, by simp; omega⟩
    · exact goes_next ⟨(k + 1, v), rfl, ⟨by simp; omega, by simp only; rw [hI, h1]; rfl⟩, by simp; omega⟩
  · simp only [decide_eq_false_iff_not] at h
    refine goes_done ?_
    rw [List.drop_eq_nil_of_le (by omega)] at hI
    have hI : getB i f x = v := hI
    simp only [Nat.beq, e4, hval, cond_true, hI, val_beq, (Val.beq_iff v v).2 rfl]
theorem law12_CellsRegisters.ok (a : dens law12_CellsRegisters.sp.ps) (ha : law12_CellsRegisters.sp.pre a = true) : law12_CellsRegisters.G iter a = some (law12_CellsRegisters.sp.fn a) := law12_CellsRegisters.run a.1 a.2.1 a.2.2.1 a.2.2.2.1

theorem law12_CellsApart.run (l a b : List Cel) : law12_CellsApart.F iter l a b = some true := by
  unfold law12_CellsApart.F
  cases h0 : (decide (l.length ≤ (200 : Nat)) && decide ((0 : Nat) ≤ (200 : Nat)))
  · rfl
  cases h1 : (decide (a.length ≤ (200 : Nat)) && decide (b.length ≤ (200 : Nat)))
  · rfl
  simp only [Bool.and_eq_true, decide_eq_true_eq] at h0 h1
  have e1 : decide (l.length < (4611686018427387904 : Nat)) = true := by simp; omega
  have e2 : decide (a.length < (4611686018427387904 : Nat)) = true := by simp; omega
  have e3 : decide (b.length < (4611686018427387904 : Nat)) = true := by simp; omega
  simp only [e1, e2, e3, Bool.not_true, cond_true, cond_false]
  cases hv : validB l
  · rfl
  cases ha : writesB a
  · rfl
  cases hb : writesB b
  · rfl
  simp only [Bool.not_true, cond_false]
  refine run_go (fun k : Nat => ((l, a, b, (k : Int), ()), ())) (fun k => k ≤ a.length ∧ ∀ (x : Cel) (j : Nat), j < k → a[j]? = some x → ∀ y ∈ b, regB x y = false) (fun k => a.length - k) 0 ⟨by omega, fun x j hj => by omega⟩ ?_
  rintro k ⟨hk, hI⟩
  simp only [law12_CellsApart.B0]
  refine goes_cond (fun h => ?_) (fun h => ?_)
  · simp only [decide_eq_true_eq] at h
    have hlt : k < a.length := by omega
    refine opt_iter (P := fun x => Goes _ _ x) (Q := fun x => x = LO.ret true ∨ (x = LO.exit 2 ((l, a, b, (k : Int), ()), ()) ∧ ∀ y ∈ b, regB a[k] y = false)) ?_ ?_
    · refine iter_go (fun j : Nat => ((l, a, b, (k : Int), (j : Int), ()), ())) (fun j => j ≤ b.length ∧ ∀ (y : Cel) (i : Nat), i < j → b[i]? = some y → regB a[k] y = false) (fun j => b.length - j) _ 0 ⟨by omega, fun y i hi => by omega⟩ ?_
      rintro j ⟨hj, hJ⟩
      simp only [law12_CellsApart.B1]
      refine goes_cond (fun h2 => ?_) (fun h2 => ?_)
      · simp only [decide_eq_true_eq] at h2
        have hjt : j < b.length := by omega
        simp only [getI_at hlt, getI_at hjt, opt?_some, wsucc j (show j < 9223372036854775807 by omega)]
        refine goes_cond (fun h3 => ?_) (fun h3 => ?_)
        · exact goes_done (.inl rfl)
        · refine goes_next ⟨j + 1, rfl, ⟨by omega, fun y i hi hy => ?_⟩, by omega⟩
          by_cases e : i = j
          · subst e
            rw [List.getElem?_eq_getElem hjt] at hy
            cases hy
            exact h3
          · exact hJ y i (by omega) hy
      · simp only [decide_eq_false_iff_not] at h2
        refine goes_done (.inr ⟨rfl, fun y hy => ?_⟩)
        obtain ⟨i, hi, rfl⟩ := List.mem_iff_getElem.1 hy
        exact hJ _ i (by omega) (List.getElem?_eq_getElem hi)
    · rintro x (rfl | ⟨rfl, hq⟩)
      · exact goes_done rfl
      · simp only [Nat.beq, cond_true, wsucc k (show k < 9223372036854775807 by omega)]
        refine goes_next ⟨k + 1, rfl, ⟨by omega, fun x j hj hx => ?_⟩, by omega⟩
        by_cases e : j = k
        · subst e
          rw [List.getElem?_eq_getElem hlt] at hx
          cases hx
          exact hq
        · exact hI x j (by omega) hx
  · simp only [decide_eq_false_iff_not] at h
    refine goes_done ?_
    have hap := put_apart hv ha hb fun x hx y hy => by
      obtain ⟨i, hi, rfl⟩ := List.mem_iff_getElem.1 hx
      exact hI _ i (by omega) (List.getElem?_eq_getElem hi) y hy
    have p1 := putB_len l a
    have p2 := putB_len l b
    have p3 := putB_len (putB l a) b
    have e4 : decide (l.length + a.length < (100000 : Nat)) = true := by simp; omega
    have e5 : decide (l.length + b.length < (100000 : Nat)) = true := by simp; omega
    have e6 : decide ((putB l a).length + b.length < (100000 : Nat)) = true := by simp; omega
    have e7 : decide ((putB l b).length + a.length < (100000 : Nat)) = true := by simp; omega
    have e8 : decide ((putB (putB l a) b).length < (4611686018427387904 : Nat)) = true := by simp; omega
    have hv2 := (put_valid (put_valid hv ha).2 hb).2
    simp only [Nat.beq, cond_true, e4, e5, e6, e7, e8, hv2, ← hap, sameB_refl]
theorem law12_CellsApart.ok (a : dens law12_CellsApart.sp.ps) (ha : law12_CellsApart.sp.pre a = true) : law12_CellsApart.G iter a = some (law12_CellsApart.sp.fn a) := law12_CellsApart.run a.1 a.2.1 a.2.2.1

end Go.Am
