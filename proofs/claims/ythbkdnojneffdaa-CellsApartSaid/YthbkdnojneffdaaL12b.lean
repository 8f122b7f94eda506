/- Cells: what is computed is what is said (2). -/
import Derived.Test.YthbkdnojneffdaaL12
namespace Go.Am

theorem ref12_Valid.run (l : List Cel) (hl : l.length < big) : ref12_Valid.F iter l = some (validB l) := by
  unfold big at hl
  unfold ref12_Valid.F
  refine run_go (fun k : Nat => ((l, (k : Int), ()), ())) (fun k => k ≤ l.length ∧ solidB l = solidB (l.drop k)) (fun k => l.length - k) 0 ⟨by omega, rfl⟩ ?_
  intro k ⟨hk, hI⟩
  simp only [ref12_Valid.B0]
  refine goes_cond (fun h => ?_) (fun h => ?_)
  · simp only [decide_eq_true_eq] at h
    have hlt : k < l.length := by omega
    have hat := solid_at hlt
    rw [getI_at hlt, opt?_some, wsucc k (by omega)]
    generalize l[k] = c at *
    rw [← hI] at hat
    change solidB l = (!(c.v.n == (0 : Int) && (c.v.flag == false && (c.v.text == ByteArray.mk #[] && (c.v.ref == (0 : Int) && true)))) && _) at hat
    unfold validB
    refine goes_cond (fun h1 => ?_) (fun h1 => ?_)
    · exact goes_done (by rw [hat, h1]; rfl)
    · exact goes_next ⟨k + 1, rfl, ⟨by omega, by rw [hat, h1]; rfl⟩, by omega⟩
  · refine goes_done ?_
    simp only [decide_eq_false_iff_not] at h
    have : l.length < 4611686018427387904 := hl
    simp only [Nat.beq, cond_true, validB, hI, List.drop_eq_nil_of_le (show l.length ≤ k by omega)]
    simp [this, solidB]
theorem ref12_Valid.ok (a : dens ref12_Valid.sp.ps) (ha : ref12_Valid.sp.pre a = true) : ref12_Valid.G iter a = some (ref12_Valid.sp.fn a) := ref12_Valid.run a.1 (of_decide_eq_true ha)

theorem cel_beq (a b : Cel) : (a.id == b.id && (a.field == b.field && (a.v.n == b.v.n && (a.v.flag == b.v.flag && (a.v.text == b.v.text && (a.v.ref == b.v.ref && true)))))) = a.beq b := by
  simp [Cel.beq, Val.beq]

theorem ref12_Same.run (a b : List Cel) (hl : a.length < big) : ref12_Same.F iter a b = some (sameB a b) := by
  unfold big at hl
  unfold ref12_Same.F
  by_cases hlen : a.length = b.length
  · have e : ((a.length : Int) != (b.length : Int)) = false := by simp [hlen]
    rw [e, cond_false]
    refine run_go (fun k : Nat => ((a, b, (k : Int), ()), ())) (fun k => k ≤ a.length ∧ sameB a b = sameB (a.drop k) (b.drop k)) (fun k => a.length - k) 0 ⟨by omega, rfl⟩ ?_
    intro k ⟨hk, hI⟩
    simp only [ref12_Same.B0, cel_beq]
    refine goes_cond (fun h => ?_) (fun h => ?_)
    · simp only [decide_eq_true_eq] at h
      have h1 : k < a.length := by omega
      have h2 : k < b.length := by omega
      rw [drop_cons h1, drop_cons h2] at hI
      rw [getI_at h1, opt?_some, getI_at h2, opt?_some, wsucc k (by omega)]
      simp only [sameB] at hI
      refine goes_cond (fun h3 => ?_) (fun h3 => ?_)
      · have h3 : (a[k].beq b[k]) = false := by simpa using h3
        exact goes_done (by rw [hI, h3]; rfl)
      · have h3 : (a[k].beq b[k]) = true := by simpa using h3
        exact goes_next ⟨k + 1, rfl, ⟨by omega, by rw [hI, h3]; rfl⟩, by omega⟩
    · simp only [decide_eq_false_iff_not] at h
      refine goes_done ?_
      rw [hI, List.drop_eq_nil_of_le (by omega), List.drop_eq_nil_of_le (by omega)]; rfl
  · have e : ((a.length : Int) != (b.length : Int)) = true := by simp; omega
    rw [e, cond_true, sameB_len hlen]
theorem ref12_Same.ok (a : dens ref12_Same.sp.ps) (ha : ref12_Same.sp.pre a = true) : ref12_Same.G iter a = some (ref12_Same.sp.fn a) := ref12_Same.run a.1 a.2.1 (of_decide_eq_true ha)

theorem get_at {i f : Int} {l : List Cel} {k : Nat} (h : k < l.length) : getB i f (l.drop k) = if l[k].id == i && l[k].field == f then l[k].v else getB i f (l.drop (k + 1)) := by
  rw [drop_cons h]; rfl

theorem cells_Get.run (l : List Cel) (i f : Int) (hl : l.length < big) : cells_Get.F iter l i f = some (getB i f l) := by
  unfold big at hl
  unfold cells_Get.F
  refine run_go (fun k : Nat => ((i, f, l, (l.length : Int), (k : Int), ()), ((0 : Int), false, ByteArray.mk #[], (0 : Int), ()), ())) (fun k => k ≤ l.length ∧ getB i f l = getB i f (l.drop k)) (fun k => l.length - k) 0 ⟨by omega, rfl⟩ ?_
  intro k ⟨hk, hI⟩
  simp only [cells_Get.B0]
  refine goes_cond (fun h => ?_) (fun h => ?_)
  · simp only [decide_eq_true_eq] at h
    have hlt : k < l.length := by omega
    rw [get_at hlt] at hI
    rw [getI_at hlt, opt?_some, wsucc k (by omega)]
    generalize l[k] = c at *
    refine goes_cond (fun h1 => goes_cond (fun h2 => ?_) (fun h2 => ?_)) (fun h1 => ?_)
    · exact goes_done (by rw [hI, h1, h2]; rfl)
    · exact goes_next ⟨k + 1, rfl, ⟨by omega, by rw [hI, h1, h2]; rfl⟩, by omega⟩
    · exact goes_next ⟨k + 1, rfl, ⟨by omega, by rw [hI, h1]; rfl⟩, by omega⟩
  · simp only [decide_eq_false_iff_not] at h
    refine goes_done ?_
    rw [hI, List.drop_eq_nil_of_le (by omega)]; rfl
theorem cells_Get.ok (a : dens cells_Get.sp.ps) (ha : cells_Get.sp.pre a = true) : cells_Get.G iter a = some (cells_Get.sp.fn a) := cells_Get.run a.1 a.2.1 a.2.2.1 (of_decide_eq_true ha)

theorem ref12_Get.run (l : List Cel) (i f : Int) (hl : l.length < big) : ref12_Get.F iter l i f = some (getB i f l) := by
  unfold big at hl
  unfold ref12_Get.F
  refine run_go (fun k : Nat => ((l, i, f, (k : Int), ()), ((0 : Int), false, ByteArray.mk #[], (0 : Int), ()), ())) (fun k => k ≤ l.length ∧ getB i f l = getB i f (l.drop k)) (fun k => l.length - k) 0 ⟨by omega, rfl⟩ ?_
  intro k ⟨hk, hI⟩
  simp only [ref12_Get.B0]
  refine goes_cond (fun h => ?_) (fun h => ?_)
  · simp only [decide_eq_true_eq] at h
    have hlt : k < l.length := by omega
    rw [get_at hlt] at hI
    simp only [getI_at hlt, opt?_some, wsucc k (show k < 9223372036854775807 by omega)]
    generalize l[k] = c at *
    refine goes_cond (fun h1 => goes_cond (fun h2 => ?_) (fun h2 => ?_)) (fun h1 => ?_)
    · exact goes_done (by rw [hI, h1, h2]; rfl)
    · exact goes_next ⟨k + 1, rfl, ⟨by omega, by rw [hI, h1, h2]; rfl⟩, by omega⟩
    · exact goes_next ⟨k + 1, rfl, ⟨by omega, by rw [hI, h1]; rfl⟩, by omega⟩
  · simp only [decide_eq_false_iff_not] at h
    refine goes_done ?_
    rw [hI, List.drop_eq_nil_of_le (by omega)]; rfl
theorem ref12_Get.ok (a : dens ref12_Get.sp.ps) (ha : ref12_Get.sp.pre a = true) : ref12_Get.G iter a = some (ref12_Get.sp.fn a) := ref12_Get.run a.1 a.2.1 a.2.2.1 (of_decide_eq_true ha)

theorem room56 {α : Type} (acc : List α) (e : α) (h : acc.length < 100000) : decide ((acc.length + [e].length) * (56 : Nat) ≤ (16777216 : Nat)) = true := by
  simp; omega
theorem filter_at {α : Type} {p : α → Bool} {l : List α} {k : Nat} (h : k < l.length) : (l.drop k).filter p = if p l[k] then l[k] :: (l.drop (k + 1)).filter p else (l.drop (k + 1)).filter p := by
  rw [drop_cons h, List.filter_cons]

theorem ref12_Of.run (l : List Cel) (i : Int) (hl : l.length < lim) : ref12_Of.F iter l i = some (ofB i l) := by
  unfold lim at hl
  unfold ref12_Of.F
  refine run_go (fun g : Nat × List Cel => ((l, i, (g.1 : Int), ()), g.2, ())) (fun g => g.1 ≤ l.length ∧ g.2.length ≤ g.1 ∧ ofB i l = g.2 ++ ofB i (l.drop g.1)) (fun g => l.length - g.1) (0, []) ⟨by simp, by simp, rfl⟩ ?_
  intro ⟨k, acc⟩ ⟨hk, hc, hI⟩
  simp only [ref12_Of.B0] at *
  refine goes_cond (fun h => ?_) (fun h => ?_)
  · simp only [decide_eq_true_eq] at h
    have hlt : k < l.length := by omega
    unfold ofB at hI
    rw [filter_at hlt] at hI
    simp only [getI_at hlt, opt?_some, wsucc k (show k < 9223372036854775807 by omega), room56 acc _ (show acc.length < 100000 by omega), cond_true]
    refine goes_cond (fun h1 => ?_) (fun h1 => ?_)
    · exact goes_next ⟨(k + 1, acc ++ [l[k]]), rfl, ⟨by simp; omega, by simp; omega, by unfold ofB; rw [hI, h1]; simp⟩, by simp; omega⟩
    · exact goes_next ⟨(k + 1, acc), rfl, ⟨by simp; omega, by simp; omega, by unfold ofB; rw [hI, h1]; simp⟩, by simp; omega⟩
  · simp only [decide_eq_false_iff_not] at h
    refine goes_done ?_
    rw [hI, List.drop_eq_nil_of_le (by omega)]; simp [ofB]
theorem ref12_Of.ok {t : TypeId} (a : dens (ref12_Of.sp t).ps) (ha : (ref12_Of.sp t).pre a = true) : ref12_Of.G iter a = some ((ref12_Of.sp t).fn a) := ref12_Of.run a.1 a.2.1 (of_decide_eq_true ha)

theorem ref12_Solid.run (l : List Cel) (hl : l.length < lim) : ref12_Solid.F iter l = some (strong l) := by
  unfold lim at hl
  unfold ref12_Solid.F
  refine run_go (fun g : Nat × List Cel => ((l, (g.1 : Int), ()), g.2, ())) (fun g => g.1 ≤ l.length ∧ g.2.length ≤ g.1 ∧ strong l = g.2 ++ strong (l.drop g.1)) (fun g => l.length - g.1) (0, []) ⟨by simp, by simp, rfl⟩ ?_
  intro ⟨k, acc⟩ ⟨hk, hc, hI⟩
  simp only [ref12_Solid.B0] at *
  refine goes_cond (fun h => ?_) (fun h => ?_)
  · simp only [decide_eq_true_eq] at h
    have hlt : k < l.length := by omega
    unfold strong at hI
    rw [filter_at hlt] at hI
    simp only [getI_at hlt, opt?_some, wsucc k (show k < 9223372036854775807 by omega), room56 acc _ (show acc.length < 100000 by omega), cond_true]
    generalize l[k] = c at *
    have e : (c.v.n == (0 : Int) && (c.v.flag == false && (c.v.text == ByteArray.mk #[] && (c.v.ref == (0 : Int) && true)))) = c.v.beq Val.zero := rfl
    rw [e]
    refine goes_cond (fun h1 => ?_) (fun h1 => ?_)
    · exact goes_next ⟨(k + 1, acc ++ [c]), rfl, ⟨by simp; omega, by simp; omega, by unfold strong; rw [hI, h1]; simp⟩, by simp; omega⟩
    · exact goes_next ⟨(k + 1, acc), rfl, ⟨by simp; omega, by simp; omega, by unfold strong; rw [hI, h1]; simp⟩, by simp; omega⟩
  · simp only [decide_eq_false_iff_not] at h
    refine goes_done ?_
    rw [hI, List.drop_eq_nil_of_le (by omega)]; simp [strong]
theorem ref12_Solid.ok {t : TypeId} (a : dens (ref12_Solid.sp t).ps) (ha : (ref12_Solid.sp t).pre a = true) : ref12_Solid.G iter a = some ((ref12_Solid.sp t).fn a) := ref12_Solid.run a.1 (of_decide_eq_true ha)

theorem ref12_Over.run (a b : List Cel) (hl : a.length + b.length < lim) : ref12_Over.F iter a b = some (over a b) := by
  unfold lim at hl
  unfold ref12_Over.F
  refine run_go (fun g : Nat × Nat × List Cel => ((a, b, (g.1 : Int), (g.2.1 : Int), ()), g.2.2, ())) (fun g => g.1 ≤ a.length ∧ g.2.1 ≤ b.length ∧ g.2.2.length ≤ g.1 + g.2.1 ∧ over a b = g.2.2 ++ over (a.drop g.1) (b.drop g.2.1)) (fun g => a.length + b.length - (g.1 + g.2.1)) (0, 0, []) ⟨by simp, by simp, by simp, rfl⟩ ?_
  intro ⟨i, k, acc⟩ ⟨hi, hk, hc, hI⟩
  simp only at hi hk hc hI
  simp only [ref12_Over.B0]
  have r := fun e => room56 acc e (show acc.length < 100000 by omega)
  by_cases hia : i < a.length
  · have e1 : decide ((i : Int) < (a.length : Int)) = true := by simp [hia]
    simp only [e1, cond_true, getI_at hia, opt?_some, wsucc i (show i < 9223372036854775807 by omega), r]
    by_cases hkb : k < b.length
    · have e2 : ((k : Int) == (b.length : Int)) = false := by simp; omega
      simp only [e2, cond_false, getI_at hkb, opt?_some, wsucc k (show k < 9223372036854775807 by omega), r, cond_true]
      rw [drop_cons hia, drop_cons hkb, over_cons] at hI
      refine goes_cond (fun h1 => ?_) (fun h1 => goes_cond (fun h2 => ?_) (fun h2 => ?_))
      · refine goes_next ⟨(i + 1, k, acc ++ [a[i]]), rfl, ⟨by simp; omega, by simp; omega, by simp; omega, ?_⟩, by simp; omega⟩
        simp only; rw [hI, h1, drop_cons hkb]; simp
      · refine goes_next ⟨(i + 1, k, acc), rfl, ⟨by simp; omega, by simp; omega, by simp; omega, ?_⟩, by simp; omega⟩
        simp only; rw [hI, h1, h2, drop_cons hkb]; simp
      · refine goes_next ⟨(i, k + 1, acc ++ [b[k]]), rfl, ⟨by simp; omega, by simp; omega, by simp; omega, ?_⟩, by simp; omega⟩
        simp only; rw [hI, h1, h2, drop_cons hia]; simp
    · have e2 : ((k : Int) == (b.length : Int)) = true := by simp; omega
      simp only [e2, cond_true]
      rw [drop_cons hia, List.drop_eq_nil_of_le (show b.length ≤ k by omega), over_nil_r] at hI
      refine goes_next ⟨(i + 1, k, acc ++ [a[i]]), rfl, ⟨by simp; omega, by simp; omega, by simp; omega, ?_⟩, by simp; omega⟩
      simp only; rw [hI, List.drop_eq_nil_of_le (show b.length ≤ k by omega), over_nil_r]; simp
  · have e1 : decide ((i : Int) < (a.length : Int)) = false := by simp; omega
    simp only [e1, cond_false]
    by_cases hkb : k < b.length
    · have e2 : ((k : Int) == (b.length : Int)) = false := by simp; omega
      have e3 : decide ((k : Int) < (b.length : Int)) = true := by simp [hkb]
      simp only [e2, e3, cond_false, getI_at hkb, opt?_some, wsucc k (show k < 9223372036854775807 by omega), r, cond_true]
      rw [drop_cons hkb, List.drop_eq_nil_of_le (show a.length ≤ i by omega), over_nil_l] at hI
      refine goes_next ⟨(i, k + 1, acc ++ [b[k]]), rfl, ⟨by simp; omega, by simp; omega, by simp; omega, ?_⟩, by simp; omega⟩
      simp only; rw [hI, List.drop_eq_nil_of_le (show a.length ≤ i by omega), over_nil_l]; simp
    · have e3 : decide ((k : Int) < (b.length : Int)) = false := by simp; omega
      simp only [e3, cond_false]
      refine goes_done ?_
      rw [hI, List.drop_eq_nil_of_le (show a.length ≤ i by omega), List.drop_eq_nil_of_le (show b.length ≤ k by omega), over_nil_l]; simp
theorem ref12_Over.ok {t : TypeId} (a : dens (ref12_Over.sp t).ps) (ha : (ref12_Over.sp t).pre a = true) : ref12_Over.G iter a = some ((ref12_Over.sp t).fn a) := ref12_Over.run a.1 a.2.1 (of_decide_eq_true ha)

end Go.Am
