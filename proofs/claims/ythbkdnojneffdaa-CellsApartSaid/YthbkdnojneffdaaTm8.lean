/- The typed machine: each operation is sound (3). -/
import Derived.Test.YthbkdnojneffdaaTm7
namespace Go.Am

section
variable {P : Program} {E : Env} {s : AS} {ρ : Rn} {fr : List TV} {st : TStore} {k : TV → TStore → Prop}

theorem UnV_int_inv {kd : IntKind} {n : Int} {y : AV} (h : UnV ρ st (.int kd n) y) : y = .v (.int kd n) := by simpa only [UnV] using h
theorem UnV_b_inv {x : Bool} {y : AV} (h : UnV ρ st (.b x) y) : y = .v (.bool x) := by simpa only [UnV] using h
theorem UnV_s_inv {x : ByteArray} {y : AV} (h : UnV ρ st (.s x) y) : y = .v (.string x) := by simpa only [UnV] using h
theorem UnV_agg_inv {cs : List TV} {y : AV} (h : UnV ρ st (.agg cs) y) : ∃ ys, y = .agg ys ∧ UnL ρ st cs ys := by simpa only [UnV] using h
theorem UnV_tup_inv {cs : List TV} {y : AV} (h : UnV ρ st (.tup cs) y) : ∃ ys, y = .tup ys ∧ UnL ρ st cs ys := by simpa only [UnV] using h
theorem UnV_vs_inv {c : Cd} {l : List (El c)} {y : AV} (h : UnV ρ st (.vs c l) y) : y = .vs (l.map (encA c)) ∨ (l = [] ∧ y = .nils) := by simpa only [UnV] using h
theorem UnV_vs {c : Cd} {l : List (El c)} : UnV ρ st (.vs c l) (.vs (l.map (encA c))) := by simp only [UnV]; exact .inl trivial
theorem UnV_eptr {c : Cd} {x : El c} {o : Nat} : UnV ρ st (.eptr c x o) (.eptr [encA c x] 0 o) := by simp only [UnV]
theorem UnV_ow_row {i : Nat} {f : Bool} {t : TypeId} {c : Cd} {l : List (El c)} {y : AV} (h : UnV ρ st (.ow i) y) (hi : st[i]? = some (.row f t c l)) : (ρ i = none ∧ y = .nils) ∨ ∃ j, ρ i = some j ∧ y = .own j 0 l.length := by
  simp only [UnV, hi] at h
  cases hj : ρ i with
  | none => rw [hj] at h; exact .inl ⟨rfl, h⟩
  | some j => rw [hj] at h; exact .inr ⟨j, rfl, h⟩
theorem UnV_own_row {i o n : Nat} {f : Bool} {t : TypeId} {c : Cd} {l : List (El c)} {y : AV} (h : UnV ρ st (.own i o n) y) (hi : st[i]? = some (.row f t c l)) : o + n ≤ l.length ∧ ((ρ i = none ∧ y = .nils) ∨ ∃ j, ρ i = some j ∧ y = .own j o n) := by
  simp only [UnV, hi] at h
  refine ⟨h.1, ?_⟩
  have h := h.2
  cases hj : ρ i with
  | none => rw [hj] at h; exact .inl ⟨rfl, h⟩
  | some j => rw [hj] at h; exact .inr ⟨j, rfl, h⟩
theorem UnV_ptr_blk {i o : Nat} {t : TypeId} {cs : List TV} {y : AV} (h : UnV ρ st (.ptr i o) y) (hi : st[i]? = some (.blk t cs)) : ∃ j, ρ i = some j ∧ y = .ptr j o := by
  simpa only [UnV, hi] using h
theorem UnV_rptr_row {i a o : Nat} {f : Bool} {t : TypeId} {c : Cd} {l : List (El c)} {y : AV} (h : UnV ρ st (.rptr i a o) y) (hi : st[i]? = some (.row f t c l)) : ∃ j, ρ i = some j ∧ y = .rptr j a o := by
  simpa only [UnV, hi] using h

theorem getI_some {α : Type} {l : List α} {n : Int} {x : α} (h : getI l n = some x) : 0 ≤ n ∧ n < l.length ∧ l[n.toNat]? = some x := by
  unfold getI at h
  cases hb : decide (0 ≤ n) with
  | false => rw [hb] at h; cases h
  | true =>
    rw [hb] at h
    simp only [cond_true] at h
    have h0 : 0 ≤ n := by simpa using hb
    have := (List.getElem?_eq_some_iff.1 h).1
    exact ⟨h0, by omega, h⟩

theorem optN_sound (hfr : UnL ρ st fr s.fr) {x : Option Opd} {g : Option Int → Prop} (h : optN (evT fr) x False g) : ∃ q, g q ∧ ∀ d, optI s.ev x d = some (q.getD d) := by
  cases x with
  | none => exact ⟨none, h, fun d => rfl⟩
  | some y =>
    simp only [optN] at h
    split at h
    · rename_i kd n hn
      have := UnV_ev hfr y
      rw [hn] at this
      have := UnV_int_inv this
      exact ⟨some n, h, fun d => by simp [optI, this]⟩
    · exact h.elim

theorem all_len (c : Cd) (l : List (El c)) {sz : Nat} (h : Nat.beq (szC c) sz = true) : ((l.map (encA c)).all fun e => e.length == sz) = true := by
  have := Nat.eq_of_beq_eq_true h
  simp [encA_len, this]

theorem slice_sound (hfr : UnL ρ st fr s.fr) (hst : UnSt ρ st s.st) {sz : Nat} {x : Opd} {lo hi : Option Opd} {a b : Option Int} (ha : ∀ d, optI s.ev lo d = some (a.getD d)) (hb : ∀ d, optI s.ev hi d = some (b.getD d)) (h : sliceT sz (evT fr x) st a b False fun v => k v st) : TOk P (.slice sz x lo hi) s ρ st k := by
  have hx := UnV_ev hfr x
  unfold sliceT at h
  split at h
  · rename_i c l hv
    rw [hv] at hx
    have hz := (cond_elim h).1
    replace h := (cond_elim h).2
    have hall := all_len c l hz
    -- what each case comes to
    have fin : ∀ (p q : Int) (l' : List (El c)), a.getD 0 = p → b.getD l.length = q → 0 ≤ p → p ≤ q → q ≤ l.length → (l.take q.toNat).drop p.toNat = l' → k (.vs c l') st → TOk P (.slice sz x lo hi) s ρ st k := fun p q l' hp hq h0 h1 h2 hl hk => by
      rcases UnV_vs_inv hx with e | ⟨e0, e⟩
      · refine TOk.same (x' := .vs (l'.map (encA c))) hst ?_ hk UnV_vs
        simp only [opSem, semF, e, ha, hb, List.length_map]
        rw [hp, hq]
        simp only [h0, h1, h2, hall, and_self, if_true]
        rw [← hl, List.map_drop, List.map_take]
      · subst e0
        have q0 : q = 0 := by simp at h2; omega
        have p0 : p = 0 := by omega
        refine TOk.same (x' := .nils) hst ?_ hk ?_
        · simp only [opSem, semF, e, ha, hb]
          simp only [List.length_nil] at hq
          have hq' : b.getD 0 = 0 := by simpa [q0] using hq
          rw [hp, hq']
          simp [p0]
        · simp only [UnV]
          exact .inr ⟨by rw [← hl]; simp, trivial⟩
    split at h
    · exact fin 0 l.length l rfl rfl (by omega) (by omega) (by omega) (by simp) h
    · rename_i p
      have hc := (cond_elim h).1
      replace h := (cond_elim h).2
      simp only [Bool.and_eq_true, decide_eq_true_eq] at hc
      exact fin p l.length _ rfl rfl hc.1 hc.2 (by omega) (by simp) h
    · rename_i q
      have hc := (cond_elim h).1
      replace h := (cond_elim h).2
      simp only [Bool.and_eq_true, decide_eq_true_eq] at hc
      exact fin 0 q _ rfl rfl (by omega) hc.1 hc.2 (by simp) h
    · rename_i p q
      have hc := (cond_elim h).1
      replace h := (cond_elim h).2
      simp only [Bool.and_eq_true, decide_eq_true_eq] at hc
      exact fin p q _ rfl rfl hc.1 hc.2.1 hc.2.2 rfl h
  · rename_i i hv
    rw [hv] at hx
    split at h
    · rename_i f t c l hi'
      have hz := (cond_elim h).1
      replace h := (cond_elim h).2
      have hsz := Nat.eq_of_beq_eq_true hz
      split at h
      · rcases UnV_ow_row hx hi' with ⟨hj, e⟩ | ⟨j, hj, e⟩
        · refine TOk.same (x' := .nils) hst ?_ h ?_
          · simp only [opSem, semF, e, ha, hb]; rfl
          · simp only [UnV, hi', hj]
        · obtain ⟨f', es, g1, _⟩ := hst.row hi' hj
          refine TOk.same (x' := .own j 0 l.length) hst ?_ h ?_
          · simp only [opSem, semF, e, ha, hb, g1]
            simp [hsz]
          · simp only [UnV, hi', hj]
      · rename_i q
        have hc := (cond_elim h).1
        replace h := (cond_elim h).2
        simp only [Bool.and_eq_true, decide_eq_true_eq] at hc
        rcases UnV_ow_row hx hi' with ⟨hj, e⟩ | ⟨j, hj, e⟩
        · have hl := hst.row_nil hi' hj
          subst hl
          have q0 : q = 0 := by simp at hc; omega
          subst q0
          refine TOk.same (x' := .nils) hst ?_ h ?_
          · simp only [opSem, semF, e, ha, hb]; rfl
          · simp only [UnV, hi', hj]; simp
        · obtain ⟨f', es, g1, _⟩ := hst.row hi' hj
          refine TOk.same (x' := .own j 0 q.toNat) hst ?_ h ?_
          · simp only [opSem, semF, e, ha, hb, g1]
            simp [hsz, hc.1, hc.2]
          · simp only [UnV, hi', hj]; simp; omega
      · exact h.elim
    · exact h.elim
  · exact h.elim

theorem cut_map {c : Cd} (l : List (El c)) (es : List (List AV)) (n : Nat) (h : n ≤ l.length) : (l.map (encA c) ++ es).take n = (l.take n).map (encA c) := by
  rw [List.take_append_of_le_length (by simpa using h), List.map_take]

theorem append_sound (hfr : UnL ρ st fr s.fr) (hst : UnSt ρ st s.st) {t : TypeId} {sz bytes : Nat} {x y : Opd} (h : tsem E (.append t sz bytes x y) (evT fr) st False k) : TOk P (.append t sz bytes x y) s ρ st k := by
  simp only [tsem] at h
  split at h
  · exact h.elim
  · rename_i c hc
    have hz := (cond_elim h).1
    replace h := (cond_elim h).2
    obtain ⟨l, hl, hq⟩ := opt?_elim h
    clear h
    have h := hq
    clear hq
    simp only [Bool.and_eq_true] at hz
    have hsz := Nat.eq_of_beq_eq_true hz.1
    have hby : 0 < bytes := Nat.le_of_ble_eq_true hz.2
    have hy := content_sound hst (UnV_ev hfr y) hl
    have hx := UnV_ev hfr x
    have room : ∀ n : Nat, n * bytes ≤ maxRow → n ≤ maxRow := fun n hn => Nat.le_trans (Nat.le_mul_of_pos_right n hby) hn
    -- onto nil
    have onNil : ∀ (a : El c) (r : List (El c)), l = a :: r → s.ev x = .nils → (a :: r).length * bytes ≤ maxRow → opSem P (.append t sz bytes x y) s (.own s.st.length 0 (a :: r).length) (s.st ++ [.row true t sz ((a :: r).map (encA c))]) := fun a r e1 e2 hr => by
      subst e1
      simp only [opSem, semF, hy, List.map_cons, e2]
      rw [if_pos ⟨by simpa using hr, by simpa using all_len c (a :: r) hz.1⟩]
      simp
    -- onto a row
    have onRow : ∀ (a : El c) (r : List (El c)) (j n : Nat) (old : List (El c)) (es : List (List AV)), l = a :: r → s.ev x = .own j 0 n → s.st[j]? = some (.row true t sz (old.map (encA c) ++ es)) → n ≤ old.length → (n + (a :: r).length) * bytes ≤ maxRow →
        opSem P (.append t sz bytes x y) s (.own s.st.length 0 (old.take n ++ a :: r).length) (s.st.set j .gone ++ [.row true t sz ((old.take n ++ a :: r).map (encA c))]) := fun a r j n old es e1 e2 e3 hn hr => by
      subst e1
      simp only [opSem, semF, hy, List.map_cons, e2, e3]
      rw [if_pos ⟨trivial, trivial, by simp; omega, by simpa using hr, by simpa using room _ hr, by simpa using all_len c (a :: r) hz.1⟩, cut_map old es n hn]
      simp [Nat.min_eq_left hn]
    split at h
    · -- nils
      rename_i hv
      rw [hv] at hx
      simp only [UnV] at hx
      split at h
      · refine TOk.same (x' := .nils) hst ?_ h (by simp only [UnV])
        simp [opSem, semF, hy, hx]
      · rename_i a r
        have hr := (cond_elim h).1
        replace h := (cond_elim h).2
        simp only [decide_eq_true_eq] at hr
        refine ⟨_, _, updR ρ st.length (some s.st.length), _, _, onNil a r rfl hx hr, h, Keep.push _ _, UnV_ow_new rfl, hst.push ⟨true, [], by simp [hsz], fun _ => rfl⟩⟩
    · -- a row of one's own
      rename_i id hv
      rw [hv] at hx
      split at h
      · rename_i t' c' old' hi
        obtain ⟨old, ho, hq⟩ := opt?_elim h
        clear h
        have h := hq
        clear hq
        obtain ⟨hec, heo⟩ := castL_some ho
        subst hec
        simp only at heo
        subst heo
        have ht := (cond_elim h).1
        replace h := (cond_elim h).2
        have htt := Nat.eq_of_beq_eq_true ht
        subst htt
        split at h
        · rcases UnV_ow_row hx hi with ⟨hj, e⟩ | ⟨j, hj, e⟩
          · refine TOk.same (x' := .nils) hst ?_ h (by simp only [UnV, hi, hj])
            simp [opSem, semF, hy, e]
          · refine TOk.same (x' := .own j 0 old'.length) hst ?_ h (by simp only [UnV, hi, hj])
            simp [opSem, semF, hy, e]
        · rename_i a r
          have hr := (cond_elim h).1
          replace h := (cond_elim h).2
          simp only [decide_eq_true_eq] at hr
          have kk : Keep ρ (updR ρ st.length (some s.st.length)) st (st.set id .gone ++ [.row true t' c' (old' ++ a :: r)]) := by
            have k1 : Keep ρ ρ st (st.set id .gone) := Keep.kill id
            have k2 : Keep ρ (updR ρ (st.set id .gone).length (some s.st.length)) (st.set id .gone) (st.set id .gone ++ [.row true t' c' (old' ++ a :: r)]) := Keep.push _ _
            rw [List.length_set] at k2
            exact k1.trans k2
          rcases UnV_ow_row hx hi with ⟨hj, e⟩ | ⟨j, hj, e⟩
          · have hnil := hst.row_nil hi hj
            subst hnil
            have hp := (hst.killT id).push (o := .row true t' c' ([] ++ a :: r)) (o' := .row true t' sz ((a :: r).map (encA c'))) ⟨true, [], by simp [hsz], fun _ => rfl⟩
            rw [List.length_set] at hp
            exact ⟨_, _, updR ρ st.length (some s.st.length), _, _, onNil a r rfl e (by simpa using hr), h, kk, UnV_ow_new (List.length_set ..).symm, hp⟩
          · obtain ⟨f', es, g1, g2⟩ := hst.row hi hj
            have hf := g2 rfl
            subst hf
            rw [hsz] at g1
            have ho := onRow a r j old'.length old' es rfl e g1 (Nat.le_refl _) hr
            rw [List.take_length] at ho
            have hp := (hst.kill hi (by simp) hj).push (o := .row true t' c' (old' ++ a :: r)) (o' := .row true t' sz ((old' ++ a :: r).map (encA c'))) ⟨true, [], by simp [hsz], fun _ => rfl⟩
            rw [List.length_set, List.length_set] at hp
            exact ⟨_, _, updR ρ st.length (some s.st.length), _, _, ho, h, kk, UnV_ow_new (List.length_set ..).symm, hp⟩
      · exact h.elim
    · -- a part of one
      rename_i id n hv
      rw [hv] at hx
      split at h
      · rename_i t' c' old' hi
        obtain ⟨old, ho, hq⟩ := opt?_elim h
        clear h
        have h := hq
        clear hq
        obtain ⟨hec, heo⟩ := castL_some ho
        subst hec
        simp only at heo
        subst heo
        have ht := (cond_elim h).1
        replace h := (cond_elim h).2
        have htt := Nat.eq_of_beq_eq_true ht
        subst htt
        obtain ⟨hle, hcase⟩ := UnV_own_row hx hi
        split at h
        · rcases hcase with ⟨hj, e⟩ | ⟨j, hj, e⟩
          · refine TOk.same (x' := .nils) hst ?_ h (by simp only [UnV, hi, hj]; simp; omega)
            simp [opSem, semF, hy, e]
          · refine TOk.same (x' := .own j 0 n) hst ?_ h (by simp only [UnV, hi, hj]; simp; omega)
            simp [opSem, semF, hy, e]
        · rename_i a r
          have hr := (cond_elim h).1
          replace h := (cond_elim h).2
          simp only [decide_eq_true_eq] at hr
          have kk : Keep ρ (updR ρ st.length (some s.st.length)) st (st.set id .gone ++ [.row true t' c' (old'.take n ++ a :: r)]) := by
            have k1 : Keep ρ ρ st (st.set id .gone) := Keep.kill id
            have k2 : Keep ρ (updR ρ (st.set id .gone).length (some s.st.length)) (st.set id .gone) (st.set id .gone ++ [.row true t' c' (old'.take n ++ a :: r)]) := Keep.push _ _
            rw [List.length_set] at k2
            exact k1.trans k2
          rcases hcase with ⟨hj, e⟩ | ⟨j, hj, e⟩
          · have hnil := hst.row_nil hi hj
            subst hnil
            have n0 : n = 0 := by simp at hle; omega
            subst n0
            have hp := (hst.killT id).push (o := .row true t' c' (([] : List (El c')).take 0 ++ a :: r)) (o' := .row true t' sz ((a :: r).map (encA c'))) ⟨true, [], by simp [hsz], fun _ => rfl⟩
            rw [List.length_set] at hp
            exact ⟨_, _, updR ρ st.length (some s.st.length), _, _, onNil a r rfl e (by simpa using hr), h, kk, UnV_ow_new (List.length_set ..).symm, hp⟩
          · obtain ⟨f', es, g1, g2⟩ := hst.row hi hj
            have hf := g2 rfl
            subst hf
            rw [hsz] at g1
            have ho := onRow a r j n old' es rfl e g1 (by omega) hr
            have hp := (hst.kill hi (by simp) hj).push (o := .row true t' c' (old'.take n ++ a :: r)) (o' := .row true t' sz ((old'.take n ++ a :: r).map (encA c'))) ⟨true, [], by simp [hsz], fun _ => rfl⟩
            rw [List.length_set, List.length_set] at hp
            exact ⟨_, _, updR ρ st.length (some s.st.length), _, _, ho, h, kk, UnV_ow_new (List.length_set ..).symm, hp⟩
      · exact h.elim
    · exact h.elim

end
end Go.Am
