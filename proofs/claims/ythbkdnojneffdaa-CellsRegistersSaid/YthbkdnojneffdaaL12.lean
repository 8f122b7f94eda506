/- Cells: what is computed is what is said. -/
import Derived.Test.YthbkdnojneffdaaF12
namespace Go.Am

theorem cmp_isNaN.ok (a : dens cmp_isNaN.sp.ps) (ha : cmp_isNaN.sp.pre a = true) : cmp_isNaN.G iter a = some (cmp_isNaN.sp.fn a) := by
  obtain ⟨x, _⟩ := a
  simp [cmp_isNaN.G, cmp_isNaN.F, cmp_isNaN.sp]

theorem cmp_Compare.ok (a : dens cmp_Compare.sp.ps) (ha : cmp_Compare.sp.pre a = true) : cmp_Compare.G iter a = some (cmp_Compare.sp.fn a) := by
  obtain ⟨x, y, _⟩ := a
  show cmp_Compare.F iter x y = some (cmpI x y)
  unfold cmp_Compare.F cmpI
  by_cases h1 : (x : Int) < y
  · simp [h1]
  · by_cases h2 : (y : Int) < x <;> simp [h1, h2]

theorem ident_based.ok (a : dens ident_based.sp.ps) (ha : ident_based.sp.pre a = true) : ident_based.G iter a = some (ident_based.sp.fn a) := by
  obtain ⟨x, _⟩ := a
  simp only [ident_based.G, ident_based.F, ident_based.sp, basedB]
  cases decide ((1 : Int) ≤ x.fdiv 1048576) <;> rfl

/-- '&' of ints. -/
def andI (a b : Int) : Int := IntKind.i64.wrap ((BitVec.ofInt 64 a &&& BitVec.ofInt 64 b).toNat : Int)
theorem andI_mask (a : Int) (h0 : 0 ≤ a) (h1 : a < 9223372036854775808) : andI a 1048575 = a % 1048576 := by
  obtain ⟨n, rfl⟩ := Int.eq_ofNat_of_zero_le h0
  have hn : n < 9223372036854775808 := by omega
  unfold andI
  have e1 : (BitVec.ofInt 64 (n : Int)).toNat = n := by
    rw [BitVec.ofInt_natCast, BitVec.toNat_ofNat]; exact Nat.mod_eq_of_lt (by omega)
  have e2 : (BitVec.ofInt 64 (1048575 : Int)).toNat = 1048575 := by decide
  rw [BitVec.toNat_and, e1, e2, show (1048575 : Nat) = 2 ^ 20 - 1 from rfl, Nat.and_two_pow_sub_one_eq_mod]
  have : n % 2 ^ 20 < 1048576 := Nat.mod_lt _ (by decide)
  rw [IntKind.wrap_i64]
  omega
theorem idOk_prog (a : Int) : (bif basedB a then some (andI a 1048575 != 0) else some false) = some (idOk a) := by
  unfold idOk basedB
  have hf : a.fdiv 1048576 = a / 1048576 := by rw [Int.fdiv_eq_ediv_of_nonneg]; omega
  rw [hf]
  by_cases h : 1 ≤ a / 1048576 ∧ a / 1048576 ≤ 32
  · have h1 : 1048576 ≤ a := by omega
    have h2 : a < 34603008 := by omega
    rw [andI_mask a (by omega) (by omega)]
    simp only [h.1, h.2, h2, decide_true, Bool.and_self, cond_true, Bool.and_true, Option.some.injEq]
    rw [Bool.eq_iff_iff]
    simp
    omega
  · have : (decide (1 ≤ a / 1048576) && decide (a / 1048576 ≤ 32)) = false := by simp; omega
    rw [this, cond_false]
    simp
    omega

theorem ident_Valid.ok (a : dens ident_Valid.sp.ps) (ha : ident_Valid.sp.pre a = true) : ident_Valid.G iter a = some (ident_Valid.sp.fn a) := by
  obtain ⟨x, _⟩ := a
  exact idOk_prog x

theorem ref10_Valid.ok (a : dens ref10_Valid.sp.ps) (ha : ref10_Valid.sp.pre a = true) : ref10_Valid.G iter a = some (ref10_Valid.sp.fn a) := by
  obtain ⟨a, _⟩ := a
  revert a
  intro (a : Int) _
  show ref10_Valid.F iter a = some (idOk a)
  unfold ref10_Valid.F idOk
  by_cases h1 : 1048576 < a
  · have : a.tmod 1048576 = a % 1048576 := by rw [Int.tmod_eq_emod_of_nonneg]; omega
    rw [this]
    by_cases h2 : a < 34603008 <;> simp [h1, h2]
  · simp [h1]

theorem cells_compare.ok (a : dens cells_compare.sp.ps) (ha : cells_compare.sp.pre a = true) : cells_compare.G iter a = some (cells_compare.sp.fn a) := by
  obtain ⟨a, b, _⟩ := a
  simp only [cells_compare.G, cells_compare.F, cells_compare.sp, cmpC]
  cases (cmpI a.id b.id != 0) <;> rfl

theorem ref12_Ahead.ok (a : dens ref12_Ahead.sp.ps) (ha : ref12_Ahead.sp.pre a = true) : ref12_Ahead.G iter a = some (ref12_Ahead.sp.fn a) := by
  obtain ⟨a, b, _⟩ := a
  have key : ∀ a b : Cel, ref12_Ahead.F iter a b = some (lt a b) := fun a b => by
    unfold ref12_Ahead.F lt
    by_cases h : a.id = b.id
    · simp [h]
    · have : (a.id != b.id) = true := by simpa using h
      simp [h, this]
  exact key a b

theorem ref12_Register.ok (a : dens ref12_Register.sp.ps) (ha : ref12_Register.sp.pre a = true) : ref12_Register.G iter a = some (ref12_Register.sp.fn a) := by
  obtain ⟨a, b, _⟩ := a
  simp only [ref12_Register.G, ref12_Register.F, ref12_Register.sp, regB]
  cases (a.id == b.id) <;> rfl

theorem prevOf_zero (l : List Cel) : prevOf l 0 = none := rfl
theorem prevOf_pos {l : List Cel} {k : Nat} (h : 0 < k) (hk : k - 1 < l.length) : prevOf l k = some l[k - 1] := by
  simp [prevOf, Nat.ne_of_gt h, List.getElem?_eq_getElem hk]

theorem cells_Writes.run (l : List Cel) (hl : l.length < big) : cells_Writes.F iter l = some (writesB l) := by
  unfold big at hl
  unfold cells_Writes.F
  refine run_go (fun k : Nat => ((l, l, (l.length : Int), (k : Int), ()), ())) (fun k => k ≤ l.length ∧ writesB l = wOk (prevOf l k) (l.drop k)) (fun k => l.length - k) 0 ⟨by omega, rfl⟩ ?_
  intro k ⟨hk, hI⟩
  simp only [cells_Writes.B0]
  refine goes_cond (fun h => ?_) (fun h => ?_)
  · simp only [decide_eq_true_eq] at h
    have hlt : k < l.length := by omega
    have hat := wOk_at (List.getElem?_eq_getElem hlt)
    rw [getI_at hlt, opt?_some, wsucc k (by omega)]
    generalize l[k] = c at *
    rw [← hI] at hat
    have hlc := lt_cmp
    unfold okC at hat
    by_cases h0 : k = 0
    · subst h0
      rw [prevOf_zero] at hat
      rw [show decide ((0 : Int) < ((0 : Nat) : Int)) = false from rfl]
      repeat' first
        | (refine goes_cond (fun _ => ?_) (fun _ => ?_))
      all_goals simp only [Goes] at *
      all_goals first
        | grind
        | (refine ⟨0 + 1, rfl, ⟨by omega, ?_⟩, by omega⟩; grind)
    · rw [prevOf_pos (by omega) (by omega)] at hat
      rw [dec_lt_true (show (0 : Int) < (k : Int) by omega), wpred k (by omega) (by omega), getI_at (show k - 1 < l.length by omega), opt?_some]
      generalize l[k - 1]'(by omega) = q at *
      repeat' first
        | (refine goes_cond (fun _ => ?_) (fun _ => ?_))
      all_goals simp only [Goes] at *
      all_goals first
        | grind
        | (refine ⟨k + 1, rfl, ⟨by omega, ?_⟩, by omega⟩; grind)
  · refine goes_done ?_
    simp only [decide_eq_false_iff_not] at h
    rw [hI, List.drop_eq_nil_of_le (by omega)]; rfl
theorem cells_Writes.ok (a : dens cells_Writes.sp.ps) (ha : cells_Writes.sp.pre a = true) : cells_Writes.G iter a = some (cells_Writes.sp.fn a) := cells_Writes.run a.1 (of_decide_eq_true ha)

theorem ref12_Writes.run (l : List Cel) (hl : l.length < big) : ref12_Writes.F iter l = some (writesB l) := by
  unfold big at hl
  unfold ref12_Writes.F
  refine run_go (fun k : Nat => ((l, (k : Int), ()), ())) (fun k => k ≤ l.length ∧ writesB l = wOk (prevOf l k) (l.drop k)) (fun k => l.length - k) 0 ⟨by omega, rfl⟩ ?_
  intro k ⟨hk, hI⟩
  simp only [ref12_Writes.B0]
  refine goes_cond (fun h => ?_) (fun h => ?_)
  · simp only [decide_eq_true_eq] at h
    have hlt : k < l.length := by omega
    have hat := wOk_at (List.getElem?_eq_getElem hlt)
    simp only [getI_at hlt, opt?_some, wsucc k (show k < 9223372036854775807 by omega)]
    generalize l[k] = c at *
    rw [← hI] at hat
    unfold okC at hat
    by_cases h0 : k = 0
    · subst h0
      rw [prevOf_zero] at hat
      rw [show decide ((0 : Int) < ((0 : Nat) : Int)) = false from rfl]
      repeat' first
        | (refine goes_cond (fun _ => ?_) (fun _ => ?_))
      all_goals simp only [Goes] at *
      all_goals first
        | grind
        | (refine ⟨0 + 1, rfl, ⟨by omega, ?_⟩, by omega⟩; grind)
    · rw [prevOf_pos (by omega) (by omega)] at hat
      rw [dec_lt_true (show (0 : Int) < (k : Int) by omega), wpred k (by omega) (by omega), getI_at (show k - 1 < l.length by omega), opt?_some]
      generalize l[k - 1]'(by omega) = q at *
      repeat' first
        | (refine goes_cond (fun _ => ?_) (fun _ => ?_))
      all_goals simp only [Goes] at *
      all_goals first
        | grind
        | (refine ⟨k + 1, rfl, ⟨by omega, ?_⟩, by omega⟩; grind)
  · refine goes_done ?_
    simp only [decide_eq_false_iff_not] at h
    rw [hI, List.drop_eq_nil_of_le (by omega)]; rfl
theorem ref12_Writes.ok (a : dens ref12_Writes.sp.ps) (ha : ref12_Writes.sp.pre a = true) : ref12_Writes.G iter a = some (ref12_Writes.sp.fn a) := ref12_Writes.run a.1 (of_decide_eq_true ha)

theorem solid_at {l : List Cel} {k : Nat} (h : k < l.length) : solidB (l.drop k) = (!l[k].v.beq Val.zero && solidB (l.drop (k + 1))) := by
  rw [drop_cons h]; rfl

theorem cells_Valid.run (l : List Cel) (hl : l.length < big) : cells_Valid.F iter l = some (validB l) := by
  have hl' := hl
  unfold big at hl
  unfold cells_Valid.F
  refine run_go (fun k : Nat => ((l, l, (l.length : Int), (k : Int), ()), ())) (fun k => k ≤ l.length ∧ solidB l = solidB (l.drop k)) (fun k => l.length - k) 0 ⟨by omega, rfl⟩ ?_
  intro k ⟨hk, hI⟩
  simp only [cells_Valid.B0]
  refine goes_cond (fun h => ?_) (fun h => ?_)
  · simp only [decide_eq_true_eq] at h
    have hlt : k < l.length := by omega
    have hat := solid_at hlt
    rw [getI_at hlt, opt?_some, wsucc k (by omega)]
    generalize l[k] = c at *
    rw [← hI] at hat
    change solidB l = (!(c.v.n == (0 : Int) && (c.v.flag == false && (c.v.text == ByteArray.mk #[] && (c.v.ref == (0 : Int) && true)))) && _) at hat
    unfold validB
    refine goes_cond (fun h1 => ?_) (fun h1 => ?_)
    · exact goes_done (by rw [hat, h1]; rfl)
    · exact goes_next ⟨k + 1, rfl, ⟨by omega, by rw [hat, h1]; rfl⟩, by omega⟩
  · refine goes_done ?_
    simp only [decide_eq_false_iff_not] at h
    have : l.length < 4611686018427387904 := hl
    simp only [Nat.beq_eq_true_eq, Nat.beq, cond_true, validB, hI, List.drop_eq_nil_of_le (show l.length ≤ k by omega)]
    simp [this, solidB]
theorem cells_Valid.ok (a : dens cells_Valid.sp.ps) (ha : cells_Valid.sp.pre a = true) : cells_Valid.G iter a = some (cells_Valid.sp.fn a) := cells_Valid.run a.1 (of_decide_eq_true ha)

end Go.Am
