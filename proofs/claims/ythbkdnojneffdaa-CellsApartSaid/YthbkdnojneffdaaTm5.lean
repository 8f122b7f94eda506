/- The typed machine: calls. -/
import Derived.Test.YthbkdnojneffdaaTm4
namespace Go.Am

def encPA : (p : PT) → p.den → AV
  | .int k, n => .v (.int k n)
  | .b, x => .v (.bool x)
  | .s, x => .v (.string x)
  | .st c, x => .agg (encA c x)
  | .sl c, l => .vs (l.map (encA c))
  | .fn f, _ => .fn f []
def encPAs : (ps : List PT) → dens ps → List AV
  | [], _ => []
  | p :: ps, (a, as) => encPA p a :: encPAs ps as
def resA : (rt : RT) → rt.den → Res
  | .one p, x => .pure (encPA p x)
  | .fresh t c, l => .fresh t (szC c) (l.map (encA c))
  | .tup ps, x => .pure (.tup (encPAs ps x))

/-- What a function's specification says of it. -/
def SpecOk (P : Program) (f : FuncId) (sp : FSpec) : Prop := ∀ a, sp.pre a = true → Contract P f (encPAs sp.ps a) (resA sp.rt (sp.fn a))

def eqV : List Kd → List Value → List Value → Option Bool
  | [], [], [] => some true
  | .int k :: ks, .int k1 a :: r, .int k2 b :: r' => if k1 = k ∧ k2 = k then (match eqV ks r r' with | some q => some (a == b && q) | none => none) else none
  | .b :: ks, .bool a :: r, .bool b :: r' => match eqV ks r r' with | some q => some (a == b && q) | none => none
  | .s :: ks, .string a :: r, .string b :: r' => match eqV ks r r' with | some q => some (a == b && q) | none => none
  | _, _, _ => none

def EqOk (P : Program) (t : TypeId) (ks : List Kd) : Prop := ∀ us vs q, eqV ks us vs = some q → pureRun P (Op.equal t (.agg us.toArray) (.agg vs.toArray)) = some q

structure EnvOk (P : Program) (E : Env) : Prop where
  fn : ∀ f sp, E.fn f = some sp → SpecOk P f sp
  eq : ∀ t ks, E.eq t = some ks → EqOk P t ks

section
variable {ρ : Rn} {st : TStore} {s : Store}

theorem UnV_encT (p : PT) (x : p.den) : UnV ρ st (encT p x) (encPA p x) := by
  cases p <;> simp only [encT, encPA, UnV]
  case st c => exact ⟨_, rfl, UnL_enc c x⟩
  case sl c => exact .inl trivial
theorem UnL_encTs : ∀ (ps : List PT) (x : dens ps), UnL ρ st (encTs ps x) (encPAs ps x)
  | [], _ => UnL_nil
  | p :: ps, (a, as) => UnL_cons (UnV_encT p a) (UnL_encTs ps as)

theorem flat_encA {c : Cd} (h : flatC c = true) (x : El c) : ∀ y ∈ encA c x, Flat y := by
  cases c <;> simp [flatC] at h <;> simp [encA, intA, Val.encA, Cel.encA, Alt.encA] <;> (repeat' constructor)
theorem flat_encPA {p : PT} (h : p.flat = true) (hf : ∀ f, p ≠ .fn f) (x : p.den) : Flat (encPA p x) := by
  cases p <;> simp only [PT.flat, encPA] at *
  case int => constructor
  case b => constructor
  case s => constructor
  case st c => exact .agg _ (flat_encA h x)
  case sl c => simp at h
  case fn f => exact absurd rfl (hf f)

theorem decP_sound (h : UnSt ρ st s) {p : PT} {x : TV} {y : AV} {a : p.den} (hx : UnV ρ st x y) (hd : decP st p x = some a) : reify s y = some (encPA p a) := by
  unfold decP at hd
  split at hd
  · rename_i k k' n
    cases hk : kEq k' k with
    | false => rw [hk] at hd; cases hd
    | true =>
      rw [hk] at hd
      simp only [kEq, decide_eq_true_eq] at hk
      subst hk
      cases hd
      simp only [UnV] at hx
      subst hx
      rfl
  · cases hd; simp only [UnV] at hx; subst hx; rfl
  · cases hd; simp only [UnV] at hx; subst hx; rfl
  · rename_i c cs
    split at hd
    · rename_i ds hds
      simp only [UnV] at hx
      obtain ⟨ys, rfl, hy⟩ := hx
      obtain ⟨zs, h1, h2⟩ := reL_sound h hy hds
      have := dec_sound h2 hd
      subst this
      simp [reify, h1, encPA]
    · cases hd
  · rename_i c x
    have hc := content_sound h hx hd
    cases y <;> simp only [content, reduceCtorEq] at hc
    case nils => simp only [Option.some.injEq] at hc; simp [reify, reifyC, encPA, ← hc]
    case vs es => simp only [Option.some.injEq] at hc; simp [reify, reifyC, encPA, ← hc]
    case own i o n => simp only [reify, reifyC, content, hc]; rfl
  · rename_i f g
    cases hk : Nat.beq f g with
    | false => rw [hk] at hd; cases hd
    | true =>
      rw [hk] at hd
      have := Nat.eq_of_beq_eq_true hk
      subst this
      simp only [UnV] at hx
      subst hx
      rfl
  · cases hd

def Lives (st : TStore) (i : Nat) : Prop := ∃ o, st[i]? = some o ∧ o ≠ .gone

/-- The rows that are handed over. -/
theorem content_ids {c : Cd} {x : TV} {y : AV} {l : List (El c)} (hx : UnV ρ st x y) (hc : contentT st c x = some l) : ∀ j ∈ y.ids, ∃ i ∈ x.ids, ρ i = some j ∧ Lives st i := by
  cases x <;> simp only [contentT, reduceCtorEq] at hc
  case nils => simp only [UnV] at hx; subst hx; simp [AV.ids, idC]
  case vs c' l' =>
    simp only [UnV] at hx
    rcases hx with rfl | ⟨rfl, rfl⟩ <;> simp [AV.ids, idC]
  case ow i =>
    split at hc
    · rename_i f t c' l' hi
      simp only [UnV, hi] at hx
      cases hj : ρ i with
      | none => rw [hj] at hx; subst hx; simp [AV.ids, idC]
      | some j => rw [hj] at hx; subst hx; simp [AV.ids, idC, TV.ids, idT, hj, Lives, hi]
    · cases hc
  case own i o n =>
    split at hc
    · rename_i f t c' l' hi
      simp only [UnV, hi] at hx
      obtain ⟨_, hx⟩ := hx
      cases hj : ρ i with
      | none => rw [hj] at hx; subst hx; simp [AV.ids, idC]
      | some j => rw [hj] at hx; subst hx; simp [AV.ids, idC, TV.ids, idT, hj, Lives, hi]
    · cases hc

theorem reC_ids {x x' : TV} {y : AV} (hx : UnV ρ st x y) (hr : reC st x = some x') : ∀ j ∈ idC y, ∃ i ∈ idT x, ρ i = some j ∧ Lives st i := by
  cases x <;> simp only [reC, reduceCtorEq] at hr
  case int k n => simp only [UnV] at hx; subst hx; simp [idC]
  case b x => simp only [UnV] at hx; subst hx; simp [idC]
  case s x => simp only [UnV] at hx; subst hx; simp [idC]
  case nils => simp only [UnV] at hx; subst hx; simp [idC]
  case vs c l => simp only [UnV] at hx; rcases hx with rfl | ⟨rfl, rfl⟩ <;> simp [idC]
  case ow i =>
    split at hr
    · rename_i f t c l hi
      simp only [UnV, hi] at hx
      cases hj : ρ i with
      | none => rw [hj] at hx; subst hx; simp [idC]
      | some j => rw [hj] at hx; subst hx; simp [idC, idT, hj, Lives, hi]
    · cases hr
  case own i o n =>
    split at hr
    · rename_i f t c l hi
      simp only [UnV, hi] at hx
      obtain ⟨_, hx⟩ := hx
      cases hj : ρ i with
      | none => rw [hj] at hx; subst hx; simp [idC]
      | some j => rw [hj] at hx; subst hx; simp [idC, idT, hj, Lives, hi]
    · cases hr
theorem reL_ids : ∀ {cs ds : List TV} {ys : List AV}, UnL ρ st cs ys → reL st cs = some ds → ∀ j ∈ ys.flatMap idC, ∃ i ∈ cs.flatMap idT, ρ i = some j ∧ Lives st i
  | [], ds, ys, hu, hr, j, hj => by simp only [UnL] at hu; subst hu; simp at hj
  | c :: cs, ds, ys, hu, hr, j, hj => by
    obtain ⟨z, zs, rfl, h1, h2⟩ := UnL_cons_inv hu
    simp only [reL] at hr
    split at hr
    · rename_i x hx
      split at hr
      · rename_i xs hxs
        simp only [List.flatMap_cons, List.mem_append] at hj
        rcases hj with hj | hj
        · obtain ⟨i, hi, hi'⟩ := reC_ids h1 hx j hj
          exact ⟨i, by simp [hi], hi'⟩
        · obtain ⟨i, hi, hi'⟩ := reL_ids h2 hxs j hj
          exact ⟨i, by simp only [List.flatMap_cons, List.mem_append]; exact .inr hi, hi'⟩
      · cases hr
    · cases hr

theorem decP_ids {p : PT} {x : TV} {y : AV} {a : p.den} (hx : UnV ρ st x y) (hd : decP st p x = some a) : ∀ j ∈ y.ids, ∃ i ∈ x.ids, ρ i = some j ∧ Lives st i := by
  unfold decP at hd
  split at hd
  · simp only [UnV] at hx; subst hx; simp [AV.ids, idC]
  · simp only [UnV] at hx; subst hx; simp [AV.ids, idC]
  · simp only [UnV] at hx; subst hx; simp [AV.ids, idC]
  · rename_i c cs
    split at hd
    · rename_i ds hds
      simp only [UnV] at hx
      obtain ⟨ys, rfl, hy⟩ := hx
      exact reL_ids hy hds
    · cases hd
  · exact content_ids hx hd
  · simp only [UnV] at hx; subst hx; simp [AV.ids, idC]
  · cases hd

theorem decPs_sound (h : UnSt ρ st s) : ∀ {ps : List PT} {xs : List TV} {ys : List AV} {a : dens ps}, UnL ρ st xs ys → decPs st ps xs = some a → reifyAll s ys = some (encPAs ps a) ∧ ∀ j ∈ ys.flatMap AV.ids, ∃ i ∈ xs.flatMap TV.ids, ρ i = some j ∧ Lives st i
  | [], [], ys, a, hu, hd => by simp only [UnL] at hu; subst hu; exact ⟨rfl, by simp⟩
  | p :: ps, x :: xs, ys, a, hu, hd => by
    obtain ⟨z, zs, rfl, h1, h2⟩ := UnL_cons_inv hu
    simp only [decPs] at hd
    split at hd
    · rename_i b hb
      split at hd
      · rename_i bs hbs
        cases hd
        obtain ⟨g1, g2⟩ := decPs_sound h h2 hbs
        refine ⟨by simp [reifyAll, decP_sound h h1 hb, g1, encPAs], fun j hj => ?_⟩
        simp only [List.flatMap_cons, List.mem_append] at hj ⊢
        rcases hj with hj | hj
        · obtain ⟨i, hi, hi'⟩ := decP_ids h1 hb j hj
          exact ⟨i, .inl hi, hi'⟩
        · obtain ⟨i, hi, hi'⟩ := g2 j hj
          exact ⟨i, .inr hi, hi'⟩
      · cases hd
    · cases hd
  | [], _ :: _, _, _, _, hd => by simp [decPs] at hd
  | _ :: _, [], _, _, _, hd => by simp [decPs] at hd

/-! ### Freezing -/

theorem freezeT_get (ids : List Nat) (st : TStore) (i : Nat) : (freezeT ids st)[i]? = (st[i]?).map fun o => if i ∈ ids then o.freeze else o := by
  unfold freezeT
  split
  · cases h : st[i]? <;> simp
  · rename_i a r
    simp only [List.getElem?_mapIdx]
    cases h : st[i]? with
    | none => rfl
    | some o =>
      simp only [Option.map_some, Option.some.injEq]
      by_cases hi : i ∈ ids
      · simp [hi]
      · simp [hi]
theorem freezeT_len (ids : List Nat) (st : TStore) : (freezeT ids st).length = st.length := by
  unfold freezeT
  split <;> simp
theorem sameK_freeze (o : TObj) : sameK o o.freeze := by cases o <;> simp [sameK, TObj.freeze]
theorem Keep.freeze (ids : List Nat) : Keep ρ ρ st (freezeT ids st) := fun i o ho => by
  rw [freezeT_get, ho]
  refine ⟨_, rfl, .inr ⟨rfl, ?_⟩⟩
  split
  · exact sameK_freeze o
  · exact sameK_refl o

theorem freeze_get (ids : List Nat) (s : Store) (i : Nat) : (freeze ids s)[i]? = (s[i]?).map fun o => if i ∈ ids then o.freeze else o := by
  simp [freeze, List.getElem?_mapIdx]
theorem freeze_gone_iff {o : TObj} {b : Bool} : (if b then o.freeze else o) = .gone ↔ o = .gone := by cases o <;> cases b <;> simp [TObj.freeze]

theorem UnSt.freeze (h : UnSt ρ st s) {ids ids' : List Nat} (hi : ∀ j ∈ ids', ∃ i ∈ ids, ρ i = some j ∧ Lives st i) : UnSt ρ (freezeT ids st) (freeze ids' s) := by
  have get : ∀ i o, (freezeT ids st)[i]? = some o → ∃ o0, st[i]? = some o0 ∧ o = (if i ∈ ids then o0.freeze else o0) ∧ (o ≠ .gone → o0 ≠ .gone) := fun i o ho => by
    rw [freezeT_get, Option.map_eq_some_iff] at ho
    obtain ⟨o0, h1, rfl⟩ := ho
    refine ⟨o0, h1, rfl, fun hne e => hne ?_⟩
    subst e
    split <;> rfl
  refine ⟨fun i o ho => ?_, fun i k j o o' ho ho' hg hg' hj hk => ?_, fun i j o ho hg hj => ?_⟩
  · obtain ⟨o0, h1, rfl, _⟩ := get i o ho
    have := h.obj i o0 h1
    cases o0 with
    | gone => split <;> simp [UnO, TObj.freeze]
    | blk t cs =>
      obtain ⟨j, ys, a1, a2, a3⟩ := this
      have e : (if i ∈ ids then (TObj.blk t cs).freeze else .blk t cs) = .blk t cs := by split <;> rfl
      rw [e]
      refine ⟨j, ys, a1, ?_, UnL_keep (Keep.freeze ids) _ _ a3⟩
      rw [freeze_get, a2]
      simp only [Option.map_some, AObj.freeze, ite_self]
    | row f t c l =>
      simp only [UnO] at this
      have e : (if i ∈ ids then (TObj.row f t c l).freeze else .row f t c l) = .row (if i ∈ ids then false else f) t c l := by split <;> rfl
      rw [e]
      simp only [UnO]
      split at this
      · rename_i j hj
        obtain ⟨f', es, a1, a2⟩ := this
        refine ⟨if j ∈ ids' then false else f', es, ?_, fun hf => ?_⟩
        · rw [freeze_get, a1]
          simp only [Option.map_some]
          split <;> rfl
        · split at hf
          · cases hf
          · rename_i hni
            rw [if_neg]
            · exact a2 hf
            · intro hj'
              obtain ⟨i', b1, b2, o', b3, b4⟩ := hi j hj'
              have : i = i' := h.inj i i' j _ o' h1 b3 (by simp) b4 hj b2
              exact hni (this ▸ b1)
      · exact this
  · obtain ⟨o0, h1, _, g1⟩ := get i o ho
    obtain ⟨o1, h2, _, g2⟩ := get k o' ho'
    exact h.inj i k j o0 o1 h1 h2 (g1 hg) (g2 hg') hj hk
  · obtain ⟨o0, h1, _, g1⟩ := get i o ho
    have := h.lt i j o0 h1 (g1 hg) hj
    simpa [Am.freeze] using this

end
end Go.Am
