/- The abstract machine: forgetting: dead slots, dead objects, other numbers for objects. Loops over states that are written out. -/
import Derived.Test.YthbkdnojneffdaaAmEval
namespace Go.Am
open Go.RowKit

/-- Other numbers. -/
def AV.ren (f : Nat → Nat) : AV → AV
  | .own id off len => .own (f id) off len
  | .ptr id off => .ptr (f id) off
  | .rptr id i off => .rptr (f id) i off
  | .mp id => .mp (f id)
  | x => x

/-- No numbers inside but at the top. -/
def AV.flatB : AV → Bool
  | .agg cs => cs.all fun c => match c with | .v _ | .nils | .vs _ | .eptr .. => true | _ => false
  | .tup cs => cs.all fun c => match c with | .v _ | .nils | .vs _ | .eptr .. => true | _ => false
  | .fn _ cs => cs.isEmpty
  | _ => true

def AV.top (n : Nat) : AV → Bool
  | .own id _ _ | .ptr id _ | .rptr id _ _ | .mp id => decide (id < n)
  | _ => true

theorem rep_cellB {m m' : LMap} {n n' : Nat} {I : Nat → Prop} {w : World} {c : AV} {u : Value} (hc : (match c with | .v _ | .nils | .vs _ | .eptr .. => true | _ => false) = true) (h : Rep m n I w c u) : Rep m' n' I w c u := by
  cases h with
  | vs es b o c sz u hI hc' hs hsz hcell hr => exact (Rep.vs es b o c sz u hI hc' hs hsz hcell hr).of_pure (pure_vs hsz)
  | eptr es i off b o sz u hI hs hsz hcell hr => exact (Rep.eptr es i off b o sz u hI hs hsz hcell hr).of_pure (.eptr es i off fun e he c hc => ((hsz e he).2 c hc).2)
  | v => exact .v _
  | nils => exact .nils
  | vs0 A c => exact .vs0 A c
  | _ => simp at hc

theorem rep_ren {m : LMap} {n n' : Nat} {I : Nat → Prop} {w : World} {f : Nat → Nat} {x : AV} {u : Value} (hb : x.flatB = true) (ht : x.top n' = true) (h : Rep m n I w (x.ren f) u) : Rep (fun j => m (f j)) n' I w x u := by
  cases x with
  | own id off len =>
    simp only [AV.top, decide_eq_true_eq] at ht
    cases h with
    | own _ _ _ hid hl hn => exact .own (m := fun j => m (f j)) id off len ht hl hn
  | ptr id off =>
    simp only [AV.top, decide_eq_true_eq] at ht
    cases h with
    | ptr _ _ hid => exact .ptr (m := fun j => m (f j)) id off ht
  | rptr id i off =>
    simp only [AV.top, decide_eq_true_eq] at ht
    cases h with
    | rptr _ _ _ hid => exact .rptr (m := fun j => m (f j)) id i off ht
  | mp id =>
    simp only [AV.top, decide_eq_true_eq] at ht
    cases h with
    | mp _ hid => exact .mp (m := fun j => m (f j)) id ht
  | agg cs =>
    cases h with
    | agg _ us hl hr =>
      simp only [AV.flatB, List.all_eq_true] at hb
      exact .agg cs us hl fun i c u hc hu => rep_cellB (hb c (List.mem_of_getElem? hc)) (hr i c u hc hu)
  | tup cs =>
    cases h with
    | tup _ us hl hr =>
      simp only [AV.flatB, List.all_eq_true] at hb
      exact .tup cs us hl fun i c u hc hu => rep_cellB (hb c (List.mem_of_getElem? hc)) (hr i c u hc hu)
  | fn g cs =>
    simp only [AV.flatB, List.isEmpty_iff] at hb
    subst hb
    cases h with
    | fn _ _ us hl hr => exact .fn g [] us hl fun i c u hc => by simp at hc
  | v y => cases h; exact .v _
  | und => exact .und _
  | nils => cases h; exact .nils
  | vs es => exact rep_cellB rfl h
  | eptr es i off => exact rep_cellB rfl h

/-- The frame with slots forgotten. -/
def WeakFr (f : Nat → Nat) (n : Nat) : List AV → List AV → Prop
  | [], [] => True
  | x :: xs, y :: ys => (y = .und ∨ (x = y.ren f ∧ y.flatB = true ∧ y.top n = true)) ∧ WeakFr f n xs ys
  | _, _ => False

/-- An object under other numbers. -/
def WeakO (f : Nat → Nat) (n : Nat) (o o' : AObj) : Prop :=
  match o' with
  | .gone => True
  | .blk t cs => ∃ ds, o = .blk t ds ∧ WeakFr f n ds cs
  | .row free t sz es => o = .row free t sz es

/-- The objects that are kept: the number that each had. -/
def WeakSt (f : Nat → Nat) (n : Nat) (st : Store) : Nat → Store → Prop
  | _, [] => True
  | j, o' :: r => (∃ o, st[f j]? = some o ∧ WeakO f n o o') ∧ WeakSt f n st (j + 1) r

theorem weakFr_get {f : Nat → Nat} {n : Nat} : ∀ {xs ys : List AV}, WeakFr f n xs ys → xs.length = ys.length ∧ ∀ (i : Nat) (x y : AV), xs[i]? = some x → ys[i]? = some y → y = .und ∨ (x = y.ren f ∧ y.flatB = true ∧ y.top n = true)
  | [], [], _ => ⟨rfl, fun i x y hx => by simp at hx⟩
  | x :: xs, y :: ys, h => by
    obtain ⟨h1, h2⟩ := weakFr_get h.2
    refine ⟨by simp [h1], fun i x' y' hx hy => ?_⟩
    cases i with
    | zero => simp at hx hy; subst hx hy; exact h.1
    | succ i => exact h2 i x' y' (by simpa using hx) (by simpa using hy)
  | [], _ :: _, h => h.elim
  | _ :: _, [], h => h.elim

theorem weakSt_get {f : Nat → Nat} {n : Nat} {st : Store} : ∀ {j : Nat} {st' : Store}, WeakSt f n st j st' → ∀ (i : Nat) (o' : AObj), st'[i]? = some o' → ∃ o, st[f (j + i)]? = some o ∧ WeakO f n o o'
  | _, [], _, i, o', h => by simp at h
  | j, x :: r, h, i, o', hi => by
    cases i with
    | zero => simp at hi; subst hi; exact h.1
    | succ i =>
      have := weakSt_get h.2 i o' (by simpa using hi)
      rwa [show j + (i + 1) = j + 1 + i from by omega]

/-- What may be forgotten: 'l': the numbers that the kept objects had. -/
def Weak (l : List Nat) (s s' : AS) : Prop := l.Nodup ∧ l.length = s'.st.length ∧ WeakFr (l.getD · 0) s'.st.length s.fr s'.fr ∧ WeakSt (l.getD · 0) s'.st.length s.st 0 s'.st

theorem Weak.good {l : List Nat} {s s' : AS} (h : Weak l s s') {I0 : Nat → Prop} {w0 : World} {a : Act} {w : World} (hg : Good I0 w0 s a w) : Good I0 w0 s' a w := by
  obtain ⟨hnd, hll, hfr, hst⟩ := h
  obtain ⟨m, I, hr⟩ := hg
  obtain ⟨f1, f2⟩ := weakFr_get hfr
  have hinj : ∀ i j, i < l.length → j < l.length → l.getD i 0 = l.getD j 0 → i = j := fun i j hi hj e => by
    simp only [List.getD, List.getElem?_eq_getElem hi, List.getElem?_eq_getElem hj, Option.getD_some] at e
    rcases Nat.lt_trichotomy i j with h | h | h
    · exact absurd e (List.pairwise_iff_getElem.1 hnd i j hi hj h)
    · exact h
    · exact absurd e.symm (List.pairwise_iff_getElem.1 hnd j i hj hi h)
  have hlive : ∀ {o o' : AObj}, WeakO (l.getD · 0) s'.st.length o o' → o'.live → o.live := fun {o o'} h hl => by
    cases o' with
    | gone => cases hl
    | blk t cs => obtain ⟨ds, rfl, _⟩ := h; trivial
    | row free t sz es => cases h; exact hl
  refine ⟨fun j => m (l.getD j 0), I, by rw [hr.size, f1], fun i y u hy hu => ?_, hr.df, hr.bel, hr.imm, hr.iz, fun id o' ho' => ?_, fun id id' o o' ho ho' hl hl' n1 n2 hne => ?_⟩
  · have hi : i < s.fr.length := by rw [f1]; exact (List.getElem?_eq_some_iff.1 hy).1
    have hx : s.fr[i]? = some s.fr[i] := List.getElem?_eq_getElem hi
    rcases f2 i _ y hx hy with rfl | ⟨h1, h2, h3⟩
    · exact .und _
    · have := hr.fr i _ u hx hu
      rw [h1] at this
      exact rep_ren h2 h3 this
  · obtain ⟨o, h1, h2⟩ := weakSt_get hst id o' ho'
    rw [Nat.zero_add] at h1
    have hok := hr.obj _ o h1
    cases o' with
    | gone => trivial
    | blk t cs =>
      obtain ⟨ds, rfl, h3⟩ := h2
      obtain ⟨g0, g1, g2, us, g3, g4, g5⟩ := hok
      obtain ⟨k1, k2⟩ := weakFr_get h3
      refine ⟨g0, g1, g2, us, g3, by rw [g4, k1], fun i c u hc hu => ?_⟩
      have hi : i < ds.length := by rw [k1]; exact (List.getElem?_eq_some_iff.1 hc).1
      rcases k2 i ds[i] c (List.getElem?_eq_getElem hi) hc with rfl | ⟨e1, e2, e3⟩
      · exact .und _
      · have := g5 i ds[i] u (List.getElem?_eq_getElem hi) hu
        rw [e1] at this
        exact rep_ren e2 e3 this
    | row free t sz es =>
      cases h2
      rcases hok with hok | ⟨g9, g0, g1, g2, g3, g4, g5, us, g6, g7, g8⟩
      · exact .inl hok
      exact .inr ⟨g9, g0, g1, g2, g3, g4, g5, us, g6, g7, fun i e j x u a b c => (g8 i e j x u a b c).of_pure ((g5 e (List.mem_of_getElem? a)).2 x (List.mem_of_getElem? b)).2⟩
  · obtain ⟨q, h1, h2⟩ := weakSt_get hst id o ho
    obtain ⟨q', h1', h2'⟩ := weakSt_get hst id' o' ho'
    rw [Nat.zero_add] at h1 h1'
    have hid : id < l.length := by rw [hll]; exact (List.getElem?_eq_some_iff.1 ho).1
    have hid' : id' < l.length := by rw [hll]; exact (List.getElem?_eq_some_iff.1 ho').1
    exact hr.inj _ _ q q' h1 h1' (hlive h2 hl) (hlive h2' hl') n1 n2 (fun e => hne (hinj _ _ hid hid' e))

/-- A nil slice is a row of one's own without elements. -/
theorem Good.nilrow {fr : List AV} {st : Store} {i : Nat} (hi : fr[i]? = some .nils) (t : TypeId) (sz : Nat) {I0 : Nat → Prop} {w0 : World} {a : Act} {w : World} (hg : Good I0 w0 ⟨fr, st⟩ a w) : Good I0 w0 ⟨fr.set i (.own st.length 0 0), st ++ [.row true t sz []]⟩ a w := by
  obtain ⟨m, I, h⟩ := hg
  have hrel := h.more (w' := w) (I' := I) ⟨0, 0, sz, true⟩ (.row true t sz []) (Below.refl _ _) (fun _ hb' => hb') (fun _ hb' => .inl hb') (fun _ hh => by cases hh) (by
    unfold Obj.ok
    rw [updM_eq]
    exact .inl ⟨rfl, rfl, rfl⟩)
  have hlt : i < fr.length := (List.getElem?_eq_some_iff.1 hi).1
  have hlt' : i < a.tmps.size := by rw [h.size]; exact hlt
  have hv : a.tmps[i] = .slice none 0 0 := by
    have := h.fr i .nils a.tmps[i] hi (Array.getElem?_eq_getElem hlt')
    cases hq : a.tmps[i] <;> rw [hq] at this <;> cases this
    rfl
  have hr : Rep (updM m st.length ⟨0, 0, sz, true⟩) (st ++ [AObj.row true t sz []]).length I w (.own st.length 0 0) a.tmps[i] := by
    have := Rep.own (m := updM m st.length ⟨0, 0, sz, true⟩) (n := (st ++ [AObj.row true t sz []]).length) (I := I) (w := w) st.length 0 0 (by simp) (by rw [updM_eq]; simp) (by rw [updM_eq]; simp)
    rw [updM_eq, Loc.sl_nil rfl] at this
    rw [hv]
    exact this
  have hput := hrel.put (some i) hr
  have ha : a.put (some i) a.tmps[i] = a := by
    have e : a.tmps.setIfInBounds i a.tmps[i] = a.tmps := by
      apply Array.ext_getElem?
      intro j
      rw [Array.getElem?_setIfInBounds]
      by_cases hj : i = j
      · subst hj; simp [hlt']
      · simp [hj]
    simp [Act.put, e]
  rw [ha] at hput
  exact ⟨_, _, hput⟩

section
variable {P : Program} {R : AS → Prop} {K : List Kf} {s : AS}

theorem G_nil {c : ACode} {fr fr1 : List AV} {st : Store} (i : Nat) (t : TypeId) (sz : Nat) (hi : fr[i]? = some .nils) (h1 : fr.set i (.own st.length 0 0) = fr1) (h : G P R c K ⟨fr1, st ++ [.row true t sz []]⟩) : G P R c K ⟨fr, st⟩ := by
  subst h1
  exact G_weak (fun _ _ _ _ hg => hg.nilrow hi t sz) h

theorem G_forget {c : ACode} (l : List Nat) (s' : AS) (hw : Weak l s s') (h : G P R c K s') : G P R c K s := G_weak (fun _ _ _ _ hg => hw.good hg) h

/-- A loop over states that are written out: 'F g' at the head of each round; 'C g' what is known of g. -/
theorem G_loopF {T : Type} {a : ACode} (F : T → AS) (C : T → Prop) (μ : T → Nat) (g : T) (l : List Nat) (h0 : Weak l s (F g)) (c0 : C g)
    (h : ∀ g, C g → G P R a (.inv (fun s' => ∃ g' l', Weak l' s' (F g') ∧ C g' ∧ μ g' < μ g) :: K) (F g)) : G P R (.loop a) K s := by
  refine G_loop (fun g s => C g ∧ ∀ I0 w0 a w, Good I0 w0 s a w → Good I0 w0 (F g) a w) μ g ⟨c0, fun _ _ _ _ hg => h0.good hg⟩ fun g s hI => ?_
  refine G_weak hI.2 ?_
  refine W_mono (h g hI.1) fun e s' hq => ?_
  cases e with
  | normal =>
    obtain ⟨g', l', h1, h2, h3⟩ := hq
    exact ⟨g', ⟨h2, fun _ _ _ _ hg => h1.good hg⟩, h3⟩
  | _ => exact hq

theorem Nx_round {T : Type} {F : T → AS} {C : T → Prop} {μ : T → Nat} {g : T} (g' : T) (l' : List Nat) (h1 : Weak l' s (F g')) (h2 : C g') (h3 : μ g' < μ g) : Nx P R (.inv (fun s' => ∃ g' l', Weak l' s' (F g') ∧ C g' ∧ μ g' < μ g) :: K) s := ⟨g', l', h1, h2, h3⟩

/-- A guard. -/
theorem regW_split {K : AS → Prop} {fr : List AV} {st : Store} {d : Nat} {op : AOp} {g : Nat} {want b : Bool} {af : List Nat} {r : List AOper} (hg : fr.getD g (.v undef) = .v (.bool b)) (h1 : b = want → regW P (⟨some d, op, none, af⟩ :: r) K ⟨fr, st⟩) (h2 : b = !want → regW P r K ⟨fr.set d (.v undef), st⟩) :
    regW P (⟨some d, op, some (g, want), af⟩ :: r) K ⟨fr, st⟩ := by
  by_cases hb : b = want
  · obtain ⟨s', ⟨s1, ⟨x, st', he, e1⟩, hr⟩, hk⟩ := h1 hb
    refine ⟨s', ⟨s1, ⟨x, st', ?_, e1⟩, hr⟩, hk⟩
    rcases he with ⟨_, h⟩ | ⟨h, _⟩
    · exact .inl ⟨by simp only [wantedA, hg, hb]; simp, h⟩
    · simp [wantedA] at h
  · have hb' : b = !want := by cases b <;> cases want <;> simp_all
    exact regW_shut hg hb' rfl (h2 hb')

theorem regW_splitT {K : AS → Prop} {fr : List AV} {st : Store} {d : Nat} {op : AOp} {g : Nat} {b : Bool} {af : List Nat} {r : List AOper} (hg : fr.getD g (.v undef) = .v (.bool b)) (h1 : b = true → regW P (⟨some d, op, none, af⟩ :: r) K ⟨fr, st⟩) (h2 : b = false → regW P r K ⟨fr.set d (.v undef), st⟩) :
    regW P (⟨some d, op, some (g, true), af⟩ :: r) K ⟨fr, st⟩ := regW_split hg h1 h2
theorem regW_splitF {K : AS → Prop} {fr : List AV} {st : Store} {d : Nat} {op : AOp} {g : Nat} {b : Bool} {af : List Nat} {r : List AOper} (hg : fr.getD g (.v undef) = .v (.bool b)) (h1 : b = false → regW P (⟨some d, op, none, af⟩ :: r) K ⟨fr, st⟩) (h2 : b = true → regW P r K ⟨fr.set d (.v undef), st⟩) :
    regW P (⟨some d, op, some (g, false), af⟩ :: r) K ⟨fr, st⟩ := regW_split hg h1 h2

end
end Go.Am
