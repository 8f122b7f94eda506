/- Cells: what is computed is what is said (3). -/
import Derived.Test.YthbkdnojneffdaaL12b
namespace Go.Am

theorem cells_Of.run (l : List Cel) (i : Int) (hl : l.length < lim) : cells_Of.F iter l i = some (ofB i l) := by
  unfold lim at hl
  unfold cells_Of.F
  refine run_go (fun g : Nat × List Cel => ((i, l, (l.length : Int), (g.1 : Int), ()), g.2, ())) (fun g => g.1 ≤ l.length ∧ g.2.length ≤ g.1 ∧ ofB i l = g.2 ++ ofB i (l.drop g.1)) (fun g => l.length - g.1) (0, []) ⟨by simp, by simp, rfl⟩ ?_
  intro ⟨k, acc⟩ ⟨hk, hc, hI⟩
  simp only [cells_Of.B0] at *
  refine goes_cond (fun h => ?_) (fun h => ?_)
  · simp only [decide_eq_true_eq] at h
    have hlt : k < l.length := by omega
    unfold ofB at hI
    rw [filter_at hlt] at hI
    simp only [getI_at hlt, opt?_some, wsucc k (show k < 9223372036854775807 by omega), room56 acc _ (show acc.length < 100000 by omega), cond_true]
    refine goes_cond (fun h1 => ?_) (fun h1 => ?_)
    · exact goes_next ⟨(k + 1, acc ++ [l[k]]), rfl, ⟨by simp; omega, by simp; omega, by unfold ofB; rw [hI, h1]; simp⟩, by simp; omega⟩
    · exact goes_next ⟨(k + 1, acc), rfl, ⟨by simp; omega, by simp; omega, by unfold ofB; rw [hI, h1]; simp⟩, by simp; omega⟩
  · simp only [decide_eq_false_iff_not] at h
    refine goes_done ?_
    rw [hI, List.drop_eq_nil_of_le (by omega)]; simp [ofB]
theorem cells_Of.ok {t : TypeId} (a : dens (cells_Of.sp t).ps) (ha : (cells_Of.sp t).pre a = true) : cells_Of.G iter a = some ((cells_Of.sp t).fn a) := cells_Of.run a.1 a.2.1 (of_decide_eq_true ha)

theorem over_gt {c : Cel} {w r : List Cel} (h : ∀ y ∈ r, lt c y = true) : over r (c :: w) = c :: over r w := by
  cases r with
  | nil => rw [over_nil_l, over_nil_l]
  | cons y r =>
    have h1 := h y (by simp)
    have h2 : lt y c = false := by
      cases hq : lt y c with
      | false => rfl
      | true => rw [lt_iff] at h1 hq; omega
    have h3 : regB y c = false := by
      cases hq : regB y c with
      | false => rfl
      | true => rw [lt_iff] at h1; rw [reg_iff] at hq; omega
    rw [over_cons, h2, h3]; simp
theorem strong_cons' (c : Cel) (l : List Cel) : strong (c :: l) = (if c.v.beq Val.zero then [] else [c]) ++ strong l := by
  unfold strong
  rw [List.filter_cons]
  cases c.v.beq Val.zero <;> simp
theorem strong_solid' {l : List Cel} (h : solidB l = true) : strong l = l := by
  unfold strong solidB at *
  exact List.filter_eq_self.2 fun c hc => List.all_eq_true.1 h c hc
theorem valB (c : Cel) : (c.v.n == (0 : Int) && (c.v.flag == false && (c.v.text == ByteArray.mk #[] && (c.v.ref == (0 : Int) && true)))) = c.v.beq Val.zero := rfl

theorem putB_eq {l w : List Cel} (h1 : validB l = true) (h2 : writesB w = true) : putB l w = strong (over l w) := by simp [putB, h1, h2]

set_option maxHeartbeats 1000000 in
theorem cells_Put.run (l w : List Cel) (hl : l.length + w.length < lim) : cells_Put.F iter l w = some (putB l w) := by
  unfold lim at hl
  unfold cells_Put.F
  have e1 : decide (l.length < (4611686018427387904 : Nat)) = true := by simp; omega
  have e2 : decide (w.length < (4611686018427387904 : Nat)) = true := by simp; omega
  rw [e1, e2, cond_true, cond_true]
  cases hv : validB l
  · simp [putB, hv]
  cases hw : writesB w
  · simp [putB, hv, hw]
  rw [putB_eq hv hw]
  simp only [Bool.not_true, cond_false]
  have hv' := hv
  simp only [validB, Bool.and_eq_true] at hv
  have hso := ((writes_iff l).1 hv.2).1
  refine run_go (fun g : List Cel × Nat × List Cel => ((g.1, w, (w.length : Int), (g.2.1 : Int), ()), g.2.2, ())) (fun g => g.2.1 ≤ w.length ∧ SortedC g.1 ∧ solidB g.1 = true ∧ g.1.length + g.2.2.length ≤ l.length + g.2.1 ∧ strong (over l w) = g.2.2 ++ strong (over g.1 (w.drop g.2.1))) (fun g => w.length - g.2.1) (l, 0, []) ⟨by simp, hso, hv.1, by simp, rfl⟩ ?_
  rintro ⟨l1, k, acc⟩ ⟨hk, hs1, hd1, hlen, hI⟩
  simp only at hk hs1 hd1 hlen hI
  simp only [cells_Put.B0]
  refine goes_cond (fun h => ?_) (fun h => ?_)
  · simp only [decide_eq_true_eq] at h
    have hlt : k < w.length := by omega
    rw [drop_cons hlt] at hI
    simp only [getI_at hlt, opt?_some]
    generalize w[k] = c at hI ⊢
    generalize hw' : w.drop (k + 1) = w' at hI
    -- the inner loop
    refine opt_iter (P := fun x => Goes _ _ x) (Q := fun x => ∃ l2 acc2, x = LO.exit 2 ((l2, w, (w.length : Int), (k : Int), ()), acc2, (c.id, c.field, c.v.n, c.v.flag, c.v.text, c.v.ref, ()), ()) ∧ SortedC l2 ∧ solidB l2 = true ∧ l2.length + acc2.length ≤ l.length + k ∧ strong (over l w) = acc2 ++ strong (over l2 (c :: w')) ∧ (∀ x r, l2 = x :: r → lt x c = false)) ?_ ?_
    · refine iter_go (fun g : List Cel × List Cel => ((g.1, w, (w.length : Int), (k : Int), ()), g.2, (c.id, c.field, c.v.n, c.v.flag, c.v.text, c.v.ref, ()), ())) (fun g => SortedC g.1 ∧ solidB g.1 = true ∧ g.1.length + g.2.length ≤ l.length + k ∧ strong (over l w) = g.2 ++ strong (over g.1 (c :: w'))) (fun g => g.1.length) _ (l1, acc) ⟨hs1, hd1, hlen, hI⟩ ?_
      rintro ⟨l2, acc2⟩ ⟨hs2, hd2, hlen2, hI2⟩
      simp only at hs2 hd2 hlen2 hI2
      simp only [cells_Put.B1]
      cases l2 with
      | nil =>
        simp only [List.length_nil]
        exact goes_done ⟨[], acc2, rfl, hs2, hd2, hlen2, hI2, fun x r e => by cases e⟩
      | cons x r =>
        have e3 : decide ((0 : Int) < (((x :: r).length : Nat) : Int)) = true := by simp
        have e4 : decide ((1 : Int) ≤ (((x :: r).length : Nat) : Int)) = true := by simp; omega
        have ha : acc2.length < 100000 := by simp at hlen2; omega
        simp only [e3, e4, cond_true, getI_zero, opt?_some, room56 acc2 _ ha, cmp_neg]
        refine goes_cond (fun h1 => ?_) (fun h1 => ?_)
        · obtain ⟨hx, hr⟩ := solid_head hd2
          have h1 : lt x c = true := h1
          refine goes_next ⟨(r, acc2 ++ [x]), rfl, ⟨(List.pairwise_cons.1 hs2).2, hr, by simp at hlen2 ⊢; omega, ?_⟩, by simp⟩
          have hz : x.v.beq Val.zero = false := by
            cases hq : x.v.beq Val.zero with
            | false => rfl
            | true => exact absurd ((Val.beq_iff _ _).1 hq) hx
          rw [hI2, over_cons, h1, if_pos rfl, strong_cons', hz]
          simp
        · refine goes_done ⟨x :: r, acc2, rfl, hs2, hd2, hlen2, hI2, fun y r' e => ?_⟩
          cases e
          exact h1
    · rintro _ ⟨l2, acc2, rfl, hs2, hd2, hlen2, hI2, hhead⟩
      simp only [Nat.beq, cond_true, wsucc k (show k < 9223372036854775807 by omega)]
      have ha : l2.length + acc2.length < 100000 := by omega
      -- what is done with c
      have fin : ∀ (N : (List Cel × List Cel × Int × Int × Unit) × List Cel × Unit → Prop) (Q : LO ((List Cel × Unit) × List Cel × Unit) (List Cel) → Prop) (l3 : List Cel), (∀ acc3, l3.length + acc3.length ≤ l.length + (k + 1) → strong (over l w) = acc3 ++ strong (over l3 (w.drop (k + 1))) → N ((l3, w, (w.length : Int), ((k + 1 : Nat) : Int), ()), acc3, ())) → l3.length ≤ l2.length → over l2 (c :: w') = c :: over l3 w' →
          Goes N Q
            (bif !(c.v.n == (0 : Int) && (c.v.flag == false && (c.v.text == ByteArray.mk #[] && (c.v.ref == (0 : Int) && true)))) then (bif decide ((acc2.length + [(Cel.mk c.id c.field (Val.mk c.v.n c.v.flag c.v.text c.v.ref))].length) * (56 : Nat) ≤ (16777216 : Nat)) then Stp.next ((l3, w, (w.length : Int), ((k + 1 : Nat) : Int), ()), acc2 ++ [(Cel.mk c.id c.field (Val.mk c.v.n c.v.flag c.v.text c.v.ref))], ()) else Stp.fail) else Stp.next ((l3, w, (w.length : Int), ((k + 1 : Nat) : Int), ()), acc2, ())) := fun N Q l3 hN g3 g4 => by
        rw [valB, room56 acc2 _ (by omega), cond_true]
        rw [g4, strong_cons'] at hI2
        refine goes_cond (fun h1 => ?_) (fun h1 => ?_)
        · have h1 : c.v.beq Val.zero = false := by simpa using h1
          refine goes_next (hN (acc2 ++ [c]) (by simp; omega) ?_)
          rw [hI2, h1, hw']; simp
        · have h1 : c.v.beq Val.zero = true := by simpa using h1
          refine goes_next (hN acc2 (by omega) ?_)
          rw [hI2, h1, hw']; simp
      cases l2 with
      | nil =>
        have e3 : decide ((0 : Int) < ((([] : List Cel).length : Nat) : Int)) = false := rfl
        simp only [e3, cond_false]
        exact fin _ _ [] (fun acc3 q1 q2 => ⟨([], k + 1, acc3), rfl, ⟨by simp; omega, hs2, hd2, q1, q2⟩, by simp; omega⟩) (by simp) (over_gt (by simp))
      | cons x r =>
        have e3 : decide ((0 : Int) < (((x :: r).length : Nat) : Int)) = true := by simp
        have e4 : decide ((1 : Int) ≤ (((x :: r).length : Nat) : Int)) = true := by simp; omega
        have hxc := hhead x r rfl
        simp only [e3, e4, cond_true, getI_zero, opt?_some, cmp_zero]
        refine goes_cond (fun h1 => ?_) (fun h1 => ?_)
        · have h1 : regB x c = true := h1
          refine fin _ _ r (fun acc3 q1 q2 => ⟨(r, k + 1, acc3), rfl, ⟨by simp; omega, (List.pairwise_cons.1 hs2).2, (solid_head hd2).2, q1, q2⟩, by simp; omega⟩) (by simp) ?_
          rw [over_cons, hxc, h1]
          simp only [Bool.false_eq_true, if_false, if_true]
          exact over_gt (above_reg h1 (List.pairwise_cons.1 hs2).1)
        · have h1 : regB x c = false := h1
          refine fin _ _ (x :: r) (fun acc3 q1 q2 => ⟨(x :: r, k + 1, acc3), rfl, ⟨by simp; omega, hs2, hd2, q1, q2⟩, by simp; omega⟩) (by simp) ?_
          rw [over_cons, hxc, h1]
          simp
  · simp only [decide_eq_false_iff_not] at h
    refine goes_done ?_
    rw [List.drop_eq_nil_of_le (by omega), over_nil_r, strong_solid' hd1] at hI
    simp only [Nat.beq, cond_true]
    rw [hI]
    cases l1 with
    | nil => simp
    | cons x r =>
      have : decide ((acc.length + (x :: r).length) * 56 ≤ 16777216) = true := by simp at hlen ⊢; omega
      simp only [this, cond_true]
theorem cells_Put.ok {t : TypeId} (a : dens (cells_Put.sp t).ps) (ha : (cells_Put.sp t).pre a = true) : cells_Put.G iter a = some ((cells_Put.sp t).fn a) := cells_Put.run a.1 a.2.1 (of_decide_eq_true ha)

theorem ref12_Put.run (l w : List Cel) (hl : l.length + w.length < lim) : ref12_Put.F iter l w = some (putB l w) := by
  unfold lim at hl
  unfold ref12_Put.F putB
  have e1 : decide (l.length < (4611686018427387904 : Nat)) = true := by simp; omega
  have e2 : decide (w.length < (4611686018427387904 : Nat)) = true := by simp; omega
  have e3 : decide (l.length + w.length < (100000 : Nat)) = true := by simp; omega
  have e4 : decide ((over l w).length < (100000 : Nat)) = true := by have := over_len l w; simp; omega
  rw [e1, e2, e3, e4]
  cases validB l <;> cases writesB w <;> rfl
theorem ref12_Put.ok {t : TypeId} (a : dens (ref12_Put.sp t).ps) (ha : (ref12_Put.sp t).pre a = true) : ref12_Put.G iter a = some ((ref12_Put.sp t).fn a) := ref12_Put.run a.1 a.2.1 (of_decide_eq_true ha)

end Go.Am
