/- The abstract machine: a region that draws its order: one walk in the order of the text serves every order. -/
import Derived.Test.YthbkdnojneffdaaAmDraw
namespace Go.Am
open Go.RowKit

section
variable {P : Program} {s s1 s2 : AS}

theorem ev_put {s : AS} {d : Option Nat} {x : AV} {y : Opd} (h : ∀ k, d = some k → k ∉ y.slots) : (s.put d x).ev y = s.ev y := by
  cases d with
  | none => rfl
  | some k =>
    cases y with
    | c z => rfl
    | t n =>
      have hne : k ≠ n := fun e => h k rfl (by simp [Opd.slots, e])
      simp [AS.ev, AS.put, List.getD, List.getElem?_set, hne]

theorem ev_st {s : AS} {st' : Store} (y : Opd) : AS.ev { s with st := st' } y = s.ev y := by cases y <;> rfl

theorem put_st {s : AS} {st' : Store} {d : Option Nat} {x : AV} : ({ s with st := st' } : AS).put d x = { s.put d x with st := st' } := by cases d <;> rfl

theorem put_comm {s : AS} {d e : Option Nat} {x y : AV} (h : ∀ k, d = some k → e ≠ some k) : (s.put d x).put e y = (s.put e y).put d x := by
  cases d with
  | none => rfl
  | some k =>
    cases e with
    | none => rfl
    | some l =>
      have hne : k ≠ l := fun e => h k rfl (by rw [e])
      simp [AS.put, List.set_comm _ _ hne]

theorem wanted_put' {s : AS} {o : AOper} {d : Option Nat} {x : AV} {st' : Store} (h : ∀ k, d = some k → k ∉ o.looks) : wantedA o { s.put d x with st := st' } = wantedA o s := by
  unfold wantedA
  cases hg : o.guard with
  | none => rfl
  | some p =>
    obtain ⟨g, want⟩ := p
    have hk : ∀ k, d = some k → k ≠ g := fun k hk e => h k hk (by simp [AOper.looks, hg, e])
    have : ({ s.put d x with st := st' } : AS).fr.getD g (.v undef) = s.fr.getD g (.v undef) := by
      cases d with
      | none => rfl
      | some k => simp [AS.put, List.getD, List.getElem?_set, hk k rfl]
    simp only [this]

theorem looks_opds {o : AOper} {k : Nat} (h : k ∉ o.looks) : ∀ y ∈ o.op.opds, k ∉ y.slots := fun y hy hk => h (by
  simp only [AOper.looks, List.mem_append, List.mem_flatMap]
  exact .inl ⟨y, hy, hk⟩)

/-- The meaning at another frame that the operation does not see, and the same store. -/
theorem eff_frame {o : AOper} {d : Option Nat} {x z : AV} {st' : Store} (h : ∀ k, d = some k → k ∉ o.looks) : eff P o (s.put d z) x st' ↔ eff P o s x st' := by
  have hev : ∀ y ∈ o.op.opds, (s.put d z).ev y = s.ev y := fun y hy => ev_put fun k hk => looks_opds (h k hk) y hy
  have hst : (s.put d z).st = s.st := by cases d <;> rfl
  have hw : wantedA o (s.put d z) = wantedA o s := by
    have := wanted_put' (s := s) (o := o) (d := d) (x := z) (st' := s.st) h
    rw [← this]
    congr 1
    cases d <;> rfl
  have hop : opSem P o.op (s.put d z) x st' ↔ opSem P o.op s x st' := by
    constructor
    · intro hh
      have := opSem_congr (fr' := s.fr) (fun y hy => by rw [hev y hy]; cases y <;> rfl) hh
      rw [hst] at this
      exact this
    · intro hh
      have := opSem_congr (fr' := (s.put d z).fr) (fun y hy => by rw [← hev y hy]; cases y <;> rfl) hh
      have e : ({ fr := (s.put d z).fr, st := s.st } : AS) = s.put d z := by rw [← hst]
      rwa [e] at this
  simp only [eff, hw, hst, hop]

/-- How an operation's result hangs on the store. -/
theorem eff_store {o : AOper} {x : AV} {st' st2 : Store} (h : eff P o s x st') (hc : o.op.cls = 0 ∨ (o.op.cls = 1 ∧ Ext s.st st2)) : st' = s.st ∧ eff P o { s with st := st2 } x st2 := by
  have hw : wantedA o { s with st := st2 } = wantedA o s := rfl
  rcases h with ⟨h1, h2⟩ | ⟨h1, rfl, rfl⟩
  · rcases hc with hc | ⟨hc, he⟩
    · obtain ⟨h3, h4⟩ := cls0_any hc h2
      exact ⟨h3, .inl ⟨hw.trans h1, h4 st2⟩⟩
    · by_cases hcall : ∃ v f xs, o.op = .call v f xs
      · obtain ⟨v, f, xs, ho⟩ := hcall
        rw [ho] at hc h2
        have hv : v = true := by cases v <;> simp_all [AOp.cls]
        simp only [opSem] at h2
        obtain ⟨e1, e2⟩ := h2.2 hv
        have hev : xs.map (AS.ev { s with st := st2 }) = xs.map s.ev := List.map_congr_left fun y _ => ev_st y
        refine ⟨e1, .inl ⟨hw.trans h1, ?_⟩⟩
        rw [ho]
        simp only [opSem, hev]
        exact ⟨(e2.fwd he).r, fun _ => ⟨trivial, e2.fwd he⟩⟩
      have hs : semF P o.op s.ev s.st = some (x, st') := by
        cases ho : o.op <;> rw [ho] at hc h2 <;> simp [AOp.cls] at hc <;> first | exact h2 | exact absurd ⟨_, _, _, ho⟩ hcall
      obtain ⟨h3, h4⟩ := (cls1_same (P := P) hc he).1 hs
      refine ⟨h3, .inl ⟨hw.trans h1, ?_⟩⟩
      rw [semF_congr (ρ' := AS.ev { s with st := st2 }) o.op st2 (fun y _ => (ev_st y).symm)] at h4
      cases ho : o.op <;> rw [ho] at hc h4 <;> simp [AOp.cls] at hc <;> first | exact h4 | exact absurd ⟨_, _, _, ho⟩ hcall
  · exact ⟨rfl, .inr ⟨hw.trans h1, rfl, rfl⟩⟩

/-- Back to an earlier store. -/
theorem eff_back {o : AOper} {x : AV} {st' st2 : Store} (he : Ext s.st st2) (hwf : WfOp o s) (hc : o.op.cls = 1) (h : eff P o { s with st := st2 } x st') : st' = st2 ∧ eff P o s x s.st := by
  have hw : wantedA o { s with st := st2 } = wantedA o s := rfl
  rcases h with ⟨h1, h2⟩ | ⟨h1, rfl, rfl⟩
  · by_cases hcall : ∃ v f xs, o.op = .call v f xs
    · obtain ⟨v, f, xs, ho⟩ := hcall
      have hwf' : ∀ y ∈ xs.map s.ev, WfV s.st.length y := fun y hy => by
        obtain ⟨z, hz, rfl⟩ := List.mem_map.1 hy
        exact hwf z (by rw [ho]; exact hz)
      rw [ho] at hc h2
      have hv : v = true := by cases v <;> simp_all [AOp.cls]
      have hev : xs.map (AS.ev { s with st := st2 }) = xs.map s.ev := List.map_congr_left fun y _ => ev_st y
      simp only [opSem, hev] at h2
      obtain ⟨e1, e2⟩ := h2.2 hv
      refine ⟨e1, .inl ⟨hw.symm.trans h1, ?_⟩⟩
      rw [ho]
      simp only [opSem]
      exact ⟨(e2.back he hwf').r, fun _ => ⟨trivial, e2.back he hwf'⟩⟩
    have hs : semF P o.op s.ev st2 = some (x, st') := by
      rw [semF_congr (ρ' := AS.ev { s with st := st2 }) o.op st2 (fun y _ => (ev_st y).symm)]
      cases ho : o.op <;> rw [ho] at hc h2 <;> simp [AOp.cls] at hc <;> first | exact h2 | exact absurd ⟨_, _, _, ho⟩ hcall
    obtain ⟨h3, h4⟩ := (cls1_same (P := P) hc he).2 hwf hs
    refine ⟨h3, .inl ⟨hw.symm.trans h1, ?_⟩⟩
    cases ho : o.op <;> rw [ho] at hc h4 <;> simp [AOp.cls] at hc <;> first | exact h4 | exact absurd ⟨_, _, _, ho⟩ hcall
  · exact ⟨rfl, .inr ⟨hw.symm.trans h1, rfl, rfl⟩⟩

theorem eff_ext {o : AOper} {x : AV} {st' : Store} (h : eff P o s x st') (hc : o.op.cls = 2) : Ext s.st st' := by
  rcases h with ⟨_, h2⟩ | ⟨_, _, rfl⟩
  · exact cls2_ext hc h2
  · exact Ext.refl _

theorem indep_spec {x y : AOper} (h : indep x y = true) : (∀ k, x.dst = some k → k ∉ y.looks ∧ y.dst ≠ some k) ∧ (∀ k, y.dst = some k → k ∉ x.looks) ∧
    (x.op.cls = 0 ∨ y.op.cls = 0 ∨ (x.op.cls = 1 ∧ y.op.cls ≤ 2) ∨ (x.op.cls = 2 ∧ y.op.cls = 1)) := by
  simp only [indep, Bool.and_eq_true, Bool.or_eq_true, beq_iff_eq, decide_eq_true_eq] at h
  obtain ⟨⟨h1, h2⟩, h3⟩ := h
  refine ⟨fun k hk => ?_, fun k hk => ?_, ?_⟩
  · rw [hk] at h1
    simpa [Bool.and_eq_true] using h1
  · rw [hk] at h2
    simpa using h2
  · rcases h3 with ((h3 | h3) | h3) | h3
    · exact .inl h3
    · exact .inr (.inl h3)
    · exact .inr (.inr (.inl h3))
    · exact .inr (.inr (.inr h3))

/-- Two operations that are independent: either may come first. -/
theorem swap {x y : AOper} (hi : indep x y = true) (hwf : y.op.cls = 1 → WfOp y s) (h1 : operR P x s s1) (h2 : operR P y s1 s2) : ∃ s1', operR P y s s1' ∧ operR P x s1' s2 := by
  obtain ⟨hd1, hd2, hcl⟩ := indep_spec hi
  obtain ⟨X, stx, hx, rfl⟩ := h1
  obtain ⟨Y, sty, hy, rfl⟩ := h2
  rw [put_st] at hy
  -- y at (fr, stx)
  have hy' : eff P y { s with st := stx } Y sty := by
    have : ({ s.put x.dst X with st := stx } : AS) = ({ s with st := stx } : AS).put x.dst X := put_st.symm
    rw [this] at hy
    exact (eff_frame (fun k hk => (hd1 k hk).1)).1 hy
  -- y first
  have key : ∃ sty', eff P y s Y sty' ∧ eff P x { s with st := sty' } X sty := by
    rcases hcl with hc | hc | ⟨hc1, hc2⟩ | ⟨hc1, hc2⟩
    · obtain ⟨e1, hx2⟩ := eff_store (st2 := sty) hx (.inl hc)
      subst e1
      exact ⟨sty, hy', hx2⟩
    · obtain ⟨e1, hy2⟩ := eff_store (st2 := s.st) hy' (.inl hc)
      simp only at e1
      subst e1
      exact ⟨s.st, hy2, hx⟩
    · obtain ⟨e1, hx0⟩ := eff_store (st2 := s.st) hx (.inr ⟨hc1, Ext.refl _⟩)
      subst e1
      have hext : Ext s.st sty := by
        rcases Nat.lt_or_ge y.op.cls 2 with hlt | hge
        · have : sty = s.st := by
            rcases Nat.lt_or_ge y.op.cls 1 with hl | hl
            · exact (eff_store (st2 := s.st) hy' (.inl (by omega))).1
            · exact (eff_store (st2 := s.st) hy' (.inr ⟨by omega, Ext.refl _⟩)).1
          rw [this]
          exact Ext.refl _
        · exact eff_ext (s := s) hy' (by omega)
      obtain ⟨_, hx2⟩ := eff_store (st2 := sty) hx (.inr ⟨hc1, hext⟩)
      exact ⟨sty, hy', hx2⟩
    · have hext := eff_ext hx hc1
      obtain ⟨e1, hy2⟩ := eff_back hext (hwf hc2) hc2 hy'
      subst e1
      exact ⟨s.st, hy2, hx⟩
  obtain ⟨sty', hy2, hx2⟩ := key
  refine ⟨_, ⟨Y, sty', hy2, rfl⟩, X, sty, ?_, ?_⟩
  · exact (eff_frame hd2).2 hx2
  · rw [put_st, put_st, put_st]
    have := put_comm (s := s) (d := x.dst) (e := y.dst) (x := X) (y := Y) (fun k hk => (hd1 k hk).2)
    simp only [put_st, this]

theorem st_len {o : AOper} (h : operR P o s s1) : s.st.length ≤ s1.st.length := by
  obtain ⟨x, st', he, rfl⟩ := h
  have hst : (({ s with st := st' } : AS).put o.dst x).st = st' := by cases o.dst <;> rfl
  rw [hst]
  rcases he with ⟨_, h2⟩ | ⟨_, _, rfl⟩
  · by_cases hcall : ∃ v f xs, o.op = .call v f xs
    · obtain ⟨v, f, xs, ho⟩ := hcall
      rw [ho] at h2
      simp only [opSem] at h2
      cases h2.1 with
      | lend => exact Nat.le_refl _
      | pure => simp [freeze]
      | lendF => simp
      | fresh => simp [freeze]
    have hcl : o.op.cls = 0 ∨ o.op.cls = 1 ∨ o.op.cls = 2 ∨ o.op.cls = 3 := by
      cases ho : o.op with
      | call v f xs => exact (hcall ⟨v, f, xs, ho⟩).elim
      | _ => simp [AOp.cls]
    rcases hcl with hc | hc | hc | hc
    · rw [(cls0_any hc h2).1]; exact Nat.le_refl _
    · cases ho : o.op with
      | call v f xs => exact (hcall ⟨v, f, xs, ho⟩).elim
      | _ => rw [ho] at hc h2 <;> simp [AOp.cls] at hc <;> simp only [opSem, semF] at h2 <;> (repeat' split at h2) <;> first
        | (cases h2; done)
        | (simp only [Option.map_eq_some_iff, Prod.mk.injEq] at h2; obtain ⟨_, _, _, rfl⟩ := h2; exact Nat.le_refl _)
        | (cases h2; exact Nat.le_refl _)
    · exact (cls2_ext hc h2).1
    · cases ho : o.op with
      | call v f xs => exact (hcall ⟨v, f, xs, ho⟩).elim
      | _ => rw [ho] at hc h2 <;> simp [AOp.cls] at hc <;> simp only [opSem, semF] at h2 <;> (repeat' split at h2) <;> first
        | (cases h2; done)
        | (cases h2; simp)
  · exact Nat.le_refl _

theorem wfV_mono {n n' : Nat} (h : n ≤ n') {v : AV} (hv : WfV n v) : WfV n' v := by
  cases v with
  | agg cs =>
    intro c hc
    have := hv c hc
    cases c <;> simp_all [WfC]
    omega
  | _ => simp_all [WfV] <;> omega

theorem wf_keep {x y : AOper} (hi : ∀ k, x.dst = some k → k ∉ y.looks) (h : operR P x s s1) (hwf' : y.op.cls = 1 → WfOp y s) : y.op.cls = 1 → WfOp y s1 := by
  intro hc1
  have hwf := hwf' hc1
  have hl := st_len h
  obtain ⟨X, stx, hx, rfl⟩ := h
  intro z hz
  have : (({ s with st := stx } : AS).put x.dst X).ev z = s.ev z := by
    rw [ev_put (fun k hk => looks_opds (hi k hk) z hz)]
    exact ev_st z
  rw [this]
  exact wfV_mono hl (hwf z hz)

/-- An operation that waits for none of those before it may come first. -/
theorem pull {y : AOper} : ∀ (xs ys : List AOper) (s sf : AS), (∀ x ∈ xs, indep x y = true) → (y.op.cls = 1 → WfOp y s) → opsR P (xs ++ y :: ys) s sf → ∃ s1, operR P y s s1 ∧ opsR P (xs ++ ys) s1 sf
  | [], ys, s, sf, _, _, h => h
  | x :: xs, ys, s, sf, hi, hwf, h => by
    obtain ⟨sx, h1, h2⟩ := h
    have hxy := hi x (by simp)
    obtain ⟨hd1, _, _⟩ := indep_spec hxy
    obtain ⟨s1, h3, h4⟩ := pull xs ys sx sf (fun z hz => hi z (by simp [hz])) (wf_keep (fun k hk => (hd1 k hk).1) h1 hwf) h2
    obtain ⟨s1', h5, h6⟩ := swap hxy hwf h1 h3
    exact ⟨s1', h5, s1, h6, h4⟩

end

/-! ### The check of a region, and the region -/

/-- The operations that come before each, directly or not. -/
def ancTab : List AOper → List (List Nat) → List (List Nat)
  | [], acc => acc
  | o :: r, acc => ancTab r (acc ++ [(o.after ++ o.after.flatMap fun e => acc.getD e []).eraseDups])

def pairsOk (as : List AOper) (tab : List (List Nat)) : Bool :=
  as.zipIdx.all fun p => p.1.after.all (· < p.2) && (as.take p.2).zipIdx.all fun q => (tab.getD p.2 []).contains q.2 || indep q.1 p.1

def drawOk (as : List AOper) : Bool := pairsOk as (ancTab as [])

end Go.Am
