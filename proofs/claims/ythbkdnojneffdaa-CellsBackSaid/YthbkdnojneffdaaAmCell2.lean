/- Cells: plain laws. -/
import Derived.Test.YthbkdnojneffdaaAmCell
import Derived.Test.YthbkdnojneffdaaAmEq
namespace Go.Am

section
variable {P : Program} {K : AS → Prop} {fr fr1 : List AV} {st : Store} {d : Nat} {af : List Nat} {r : List AOper}
/-- l[0]. -/
theorem regW_ia0 {α : Type} {l : List α} {enc : α → List AV} {sz : Nat} {c : α} {kk : IntKind} {x : Opd} (hx : AS.ev ⟨fr, st⟩ x = .vs ((c :: l).map enc)) (hl : (enc c).length = sz)
    (h1 : fr.set d (.eptr [enc c] 0 0) = fr1) (hk : regW P r K ⟨fr1, st⟩) : regW P (⟨some d, .ia sz x (.c (.v (.int kk 0))), none, af⟩ :: r) K ⟨fr, st⟩ :=
  regW_iaM (l := c :: l) (k := 0) hx rfl rfl hl h1 hk
end

theorem lt_iff (a b : Cel) : lt a b = true ↔ a.id < b.id ∨ (a.id = b.id ∧ a.field < b.field) := by simp [lt]
theorem reg_iff (a b : Cel) : regB a b = true ↔ a.id = b.id ∧ a.field = b.field := by simp [regB]
theorem cmp_neg (a b : Cel) : decide (cmpC a b < 0) = lt a b := by
  have h := lt_cmp a b
  rw [Bool.eq_iff_iff]
  cases hl : lt a b <;> rw [hl] at h <;> simp at h ⊢ <;> omega
theorem cmp_zero (a b : Cel) : (cmpC a b == 0) = regB a b := by
  rw [Bool.eq_iff_iff, reg_iff]
  unfold cmpC
  rcases cmpI_cases a.id b.id with ⟨h, e⟩ | ⟨h, e⟩ | ⟨h, e⟩ <;> rw [e] <;> simp
  · intro h1; omega
  · intro h1; omega
  · rcases cmpI_cases a.field b.field with ⟨h', e'⟩ | ⟨h', e'⟩ | ⟨h', e'⟩ <;> rw [e'] <;> simp [h] <;> omega
theorem lt_trans {a b c : Cel} (h1 : lt a b = true) (h2 : lt b c = true) : lt a c = true := by
  rw [lt_iff] at *; omega

/-- In ascending order of registers. -/
def SortedC (l : List Cel) : Prop := l.Pairwise fun a b => lt a b = true

theorem wOk_sorted : ∀ {l : List Cel} {p : Option Cel}, wOk p l = true → SortedC l ∧ (∀ q, p = some q → ∀ c ∈ l, lt q c = true) ∧ ∀ c ∈ l, okC c = true
  | [], _, _ => ⟨.nil, fun _ _ c hc => by simp at hc, fun c hc => by simp at hc⟩
  | c :: r, p, h => by
    simp only [wOk, Bool.and_eq_true] at h
    obtain ⟨⟨h1, h2⟩, h3⟩ := h
    obtain ⟨i1, i2, i3⟩ := wOk_sorted h3
    refine ⟨.cons (fun d hd => i2 c rfl d hd) i1, fun q hq d hd => ?_, fun d hd => ?_⟩
    · subst hq
      simp only at h2
      rcases List.mem_cons.1 hd with rfl | hd
      · exact h2
      · exact lt_trans h2 (i2 c rfl d hd)
    · rcases List.mem_cons.1 hd with rfl | hd
      · exact h1
      · exact i3 d hd
theorem writes_iff (l : List Cel) : writesB l = true ↔ SortedC l ∧ ∀ c ∈ l, okC c = true := by
  refine ⟨fun h => ⟨(wOk_sorted h).1, (wOk_sorted h).2.2⟩, fun ⟨h1, h2⟩ => ?_⟩
  unfold writesB
  suffices h : ∀ (l : List Cel) (p : Option Cel), SortedC l → (∀ q, p = some q → ∀ c ∈ l, lt q c = true) → (∀ c ∈ l, okC c = true) → wOk p l = true from h l none h1 (fun q hq => by cases hq) h2
  intro l
  induction l with
  | nil => intros; rfl
  | cons c r ih =>
    intro p h1 h2 h3
    have hp := List.pairwise_cons.1 h1
    simp only [wOk, Bool.and_eq_true]
    refine ⟨⟨h3 c (by simp), ?_⟩, ih _ hp.2 (fun q hq d hd => ?_) fun d hd => h3 d (by simp [hd])⟩
    · cases p with
      | none => rfl
      | some q => exact h2 q rfl c (by simp)
    · cases hq
      exact hp.1 d hd
theorem valid_iff (l : List Cel) : validB l = true ↔ solidB l = true ∧ SortedC l ∧ ∀ c ∈ l, okC c = true := by
  rw [← writes_iff]
  simp [validB]

theorem over_head {x c : Cel} {l w : List Cel} (hs : SortedC (x :: l)) (hr : regB x c = true) : over (x :: l) (c :: w) = c :: over l w := by
  have h1 : lt x c = false := by
    rw [reg_iff] at hr
    cases h : lt x c with
    | false => rfl
    | true => rw [lt_iff] at h; omega
  rw [over_cons, h1, hr]
  simp only [Bool.false_eq_true, if_false, if_true]
  cases l with
  | nil => rw [over_nil_l, over_nil_l]
  | cons y l =>
    have hxy := (List.pairwise_cons.1 hs).1 y (by simp)
    have h2 : lt y c = false := by
      rw [reg_iff] at hr
      rw [lt_iff] at hxy
      cases h : lt y c with
      | false => rfl
      | true => rw [lt_iff] at h; omega
    have h3 : regB y c = false := by
      rw [reg_iff] at hr
      rw [lt_iff] at hxy
      cases h : regB y c with
      | false => rfl
      | true => rw [reg_iff] at h; omega
    rw [over_cons, h2, h3]
    simp
theorem strong_cons (c : Cel) (l : List Cel) : strong (c :: l) = if !c.v.beq Val.zero then c :: strong l else strong l := by simp only [strong, List.filter_cons]
theorem solid_cons (c : Cel) (l : List Cel) : solidB (c :: l) = (!c.v.beq Val.zero && solidB l) := by simp [solidB]
theorem strong_len (l : List Cel) : (strong l).length ≤ l.length := List.length_filter_le ..
theorem strong_solid : ∀ {l : List Cel}, solidB l = true → strong l = l
  | [], _ => rfl
  | c :: l, h => by
    rw [solid_cons, Bool.and_eq_true] at h
    rw [strong_cons, h.1, strong_solid h.2]
    simp
theorem putB_len (l w : List Cel) : (putB l w).length ≤ l.length + w.length := by
  unfold putB
  split
  · exact Nat.le_trans (strong_len _) (over_len _ _)
  · simp

end Go.Am
