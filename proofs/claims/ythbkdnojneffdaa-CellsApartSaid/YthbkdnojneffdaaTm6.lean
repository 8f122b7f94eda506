/- The typed machine: each operation is sound. -/
import Derived.Test.YthbkdnojneffdaaTm5
namespace Go.Am

def updR (ρ : Rn) (n : Nat) (j : Option Nat) : Rn := fun i => if i = n then j else ρ i
theorem updR_lt {ρ : Rn} {n i : Nat} {j : Option Nat} (h : i < n) : updR ρ n j i = ρ i := by simp [updR, Nat.ne_of_lt h]
theorem updR_eq {ρ : Rn} {n : Nat} {j : Option Nat} : updR ρ n j n = j := by simp [updR]

/-- A new object. -/
def OU (ρ : Rn) (st : TStore) : TObj → AObj → Prop
  | .blk t cs, o' => ∃ ys, o' = .blk t ys ∧ UnL ρ st cs ys
  | .row f t c l, o' => ∃ f' es, o' = .row f' t (szC c) (l.map (encA c) ++ es) ∧ (f = true → f' = true)
  | .gone, _ => True

section
variable {ρ : Rn} {st : TStore} {s : Store}

theorem Keep.push (o : TObj) (j : Option Nat) : Keep ρ (updR ρ st.length j) st (st ++ [o]) := Keep.snoc (fun _ h => updR_lt h) _

theorem UnSt.push (h : UnSt ρ st s) {o : TObj} {o' : AObj} (ho : OU ρ st o o') : UnSt (updR ρ st.length (some s.length)) (st ++ [o]) (s ++ [o']) := by
  have hk : Keep ρ (updR ρ st.length (some s.length)) st (st ++ [o]) := Keep.push o _
  have cas : ∀ (i : Nat) (q : TObj), (st ++ [o])[i]? = some q → (i < st.length ∧ st[i]? = some q) ∨ (i = st.length ∧ q = o) := fun i q hq => by
    rcases Nat.lt_or_ge i st.length with hlt | hge
    · rw [List.getElem?_append_left hlt] at hq
      exact .inl ⟨hlt, hq⟩
    · have hlt := (List.getElem?_eq_some_iff.1 hq).1
      simp at hlt
      have e : i = st.length := by omega
      subst e
      simp at hq
      exact .inr ⟨rfl, hq.symm⟩
  have up : ∀ (j : Nat) (q : AObj), s[j]? = some q → (s ++ [o'])[j]? = some q := fun j q hq => by rw [List.getElem?_append_left (List.getElem?_eq_some_iff.1 hq).1]; exact hq
  refine ⟨fun i q hq => ?_, fun i k j q q' hq hq' hg hg' hj hk' => ?_, fun i j q hq hg hj => ?_⟩
  · rcases cas i q hq with ⟨hlt, hq⟩ | ⟨rfl, rfl⟩
    · have := h.obj i q hq
      cases q with
      | gone => trivial
      | blk t cs =>
        obtain ⟨j, ys, a1, a2, a3⟩ := this
        exact ⟨j, ys, by rw [updR_lt hlt]; exact a1, up _ _ a2, UnL_keep hk _ _ a3⟩
      | row f t c l =>
        simp only [UnO, updR_lt hlt] at this ⊢
        split at this
        · obtain ⟨f', es, a1, a2⟩ := this
          exact ⟨f', es, up _ _ a1, a2⟩
        · exact this
    · cases q with
      | gone => trivial
      | blk t cs =>
        obtain ⟨ys, rfl, a3⟩ := ho
        exact ⟨s.length, ys, updR_eq, by simp, UnL_keep hk _ _ a3⟩
      | row f t c l =>
        obtain ⟨f', es, rfl, a2⟩ := ho
        simp only [UnO, updR_eq]
        exact ⟨f', es, by simp, a2⟩
  · rcases cas i q hq with ⟨hlt, hq1⟩ | ⟨hi1, hq1⟩ <;> rcases cas k q' hq' with ⟨hlt', hq1'⟩ | ⟨hk1, hq1'⟩
    · rw [updR_lt hlt] at hj
      rw [updR_lt hlt'] at hk'
      exact h.inj i k j q q' hq1 hq1' hg hg' hj hk'
    · rw [updR_lt hlt] at hj
      rw [hk1, updR_eq] at hk'
      cases hk'
      have := h.lt i _ q hq1 hg hj
      omega
    · rw [updR_lt hlt'] at hk'
      rw [hi1, updR_eq] at hj
      cases hj
      have := h.lt k _ q' hq1' hg' hk'
      omega
    · omega
  · rcases cas i q hq with ⟨hlt, hq⟩ | ⟨rfl, rfl⟩
    · rw [updR_lt hlt] at hj
      have := h.lt i j q hq hg hj
      simp; omega
    · rw [updR_eq] at hj
      cases hj
      simp

theorem Keep.kill (id : Nat) : Keep ρ ρ st (st.set id .gone) := fun i o ho => by
  by_cases h : id = i
  · subst h
    exact ⟨.gone, by rw [List.getElem?_set_self (List.getElem?_eq_some_iff.1 ho).1], .inl rfl⟩
  · exact ⟨o, by rw [List.getElem?_set_ne h]; exact ho, .inr ⟨rfl, sameK_refl o⟩⟩

theorem set_get {α : Type} {l : List α} {id i : Nat} {x q : α} (h : (l.set id x)[i]? = some q) : (i = id ∧ q = x) ∨ (i ≠ id ∧ l[i]? = some q) := by
  rw [List.getElem?_set] at h
  split at h
  · split at h
    · cases h; rename_i e _; exact .inl ⟨e.symm, rfl⟩
    · cases h
  · rename_i e; exact .inr ⟨fun h => e h.symm, h⟩

theorem UnSt.killT (h : UnSt ρ st s) (id : Nat) : UnSt ρ (st.set id .gone) s := by
  refine ⟨fun i q hq => ?_, fun i k j q q' hq hq' hg hg' hj hk' => ?_, fun i j q hq hg hj => ?_⟩
  · rcases set_get hq with ⟨rfl, rfl⟩ | ⟨_, hq⟩
    · trivial
    · have := h.obj i q hq
      cases q with
      | gone => trivial
      | blk t cs => obtain ⟨j, ys, a1, a2, a3⟩ := this; exact ⟨j, ys, a1, a2, UnL_keep (Keep.kill id) _ _ a3⟩
      | row f t c l => exact this
  · rcases set_get hq with ⟨rfl, rfl⟩ | ⟨_, hq⟩
    · exact absurd rfl hg
    · rcases set_get hq' with ⟨rfl, rfl⟩ | ⟨_, hq'⟩
      · exact absurd rfl hg'
      · exact h.inj i k j q q' hq hq' hg hg' hj hk'
  · rcases set_get hq with ⟨rfl, rfl⟩ | ⟨_, hq⟩
    · exact absurd rfl hg
    · exact h.lt i j q hq hg hj

theorem UnSt.kill (h : UnSt ρ st s) {id j : Nat} {o : TObj} (ho : st[id]? = some o) (hg : o ≠ .gone) (hj : ρ id = some j) : UnSt ρ (st.set id .gone) (s.set j .gone) := by
  have h' := h.killT id
  have ne : ∀ i q, (st.set id .gone)[i]? = some q → q ≠ .gone → ∀ k, ρ i = some k → k ≠ j := fun i q hq hqg k hk e => by
    rcases set_get hq with ⟨rfl, rfl⟩ | ⟨hne, hq⟩
    · exact hqg rfl
    · subst e
      exact hne (h.inj i id k q o hq ho hqg hg hk hj)
  refine ⟨fun i q hq => ?_, h'.inj, fun i k q hq hqg hk => by simpa using h'.lt i k q hq hqg hk⟩
  have := h'.obj i q hq
  cases q with
  | gone => trivial
  | blk t cs =>
    obtain ⟨k, ys, a1, a2, a3⟩ := this
    exact ⟨k, ys, a1, by rw [List.getElem?_set_ne (ne i _ hq (by simp) k a1).symm]; exact a2, a3⟩
  | row f t c l =>
    simp only [UnO] at this ⊢
    split at this
    · rename_i k hk
      obtain ⟨f', es, a1, a2⟩ := this
      exact ⟨f', es, by rw [List.getElem?_set_ne (ne i _ hq (by simp) k hk).symm]; exact a1, a2⟩
    · exact this

/-- An object is turned. -/
theorem UnSt.turn (h : UnSt ρ st s) {id j : Nat} {o o1 : TObj} {o' : AObj} (ho : st[id]? = some o) (hg : o ≠ .gone) (hk : sameK o o1) (hj : ρ id = some j) (hu : OU ρ st o1 o') : UnSt ρ (st.set id o1) (s.set j o') ∧ Keep ρ ρ st (st.set id o1) := by
  have hlt : id < st.length := (List.getElem?_eq_some_iff.1 ho).1
  have kp : Keep ρ ρ st (st.set id o1) := fun i q hq => by
    by_cases e : id = i
    · subst e
      rw [ho] at hq
      cases hq
      exact ⟨o1, by rw [List.getElem?_set_self hlt], .inr ⟨rfl, hk⟩⟩
    · exact ⟨q, by rw [List.getElem?_set_ne e]; exact hq, .inr ⟨rfl, sameK_refl q⟩⟩
  have hg1 : o1 ≠ .gone := fun e => by subst e; cases o <;> simp_all [sameK]
  have hjl : j < s.length := h.lt id j o ho hg hj
  have ne : ∀ i q, i ≠ id → st[i]? = some q → q ≠ .gone → ∀ k, ρ i = some k → k ≠ j := fun i q hne hq hqg k hk e => by
    subst e
    exact hne (h.inj i id k q o hq ho hqg hg hk hj)
  refine ⟨⟨fun i q hq => ?_, fun i k j q q' hq hq' hg' hg'' hj hk' => ?_, fun i k q hq hqg hk' => ?_⟩, kp⟩
  · rcases set_get hq with ⟨rfl, rfl⟩ | ⟨hne, hq⟩
    · cases q with
      | gone => trivial
      | blk t cs =>
        obtain ⟨ys, rfl, a3⟩ := hu
        exact ⟨j, ys, hj, by rw [List.getElem?_set_self hjl], UnL_keep kp _ _ a3⟩
      | row f t c l =>
        obtain ⟨f', es, rfl, a2⟩ := hu
        simp only [UnO, hj]
        exact ⟨f', es, by rw [List.getElem?_set_self hjl], a2⟩
    · have := h.obj i q hq
      cases q with
      | gone => trivial
      | blk t cs =>
        obtain ⟨k, ys, a1, a2, a3⟩ := this
        exact ⟨k, ys, a1, by rw [List.getElem?_set_ne (ne i _ hne hq (by simp) k a1).symm]; exact a2, UnL_keep kp _ _ a3⟩
      | row f t c l =>
        simp only [UnO] at this ⊢
        split at this
        · rename_i k hk
          obtain ⟨f', es, a1, a2⟩ := this
          exact ⟨f', es, by rw [List.getElem?_set_ne (ne i _ hne hq (by simp) k hk).symm]; exact a1, a2⟩
        · exact this
  · have back : ∀ (i : Nat) (q : TObj), (st.set id o1)[i]? = some q → q ≠ .gone → ∃ q0 : TObj, st[i]? = some q0 ∧ q0 ≠ .gone := fun i q hq hqg => by
      rcases set_get hq with ⟨rfl, rfl⟩ | ⟨_, hq⟩
      · exact ⟨o, ho, hg⟩
      · exact ⟨q, hq, hqg⟩
    obtain ⟨q0, b1, b2⟩ := back i q hq hg'
    obtain ⟨q1, c1, c2⟩ := back k q' hq' hg''
    exact h.inj i k _ q0 q1 b1 c1 b2 c2 hj hk'
  · rw [List.length_set]
    rcases set_get hq with ⟨rfl, rfl⟩ | ⟨_, hq⟩
    · exact h.lt i k o ho hg hk'
    · exact h.lt i k q hq hqg hk'

end

/-! ### One operation -/

def TOk (P : Program) (op : AOp) (s : AS) (ρ : Rn) (st : TStore) (k : TV → TStore → Prop) : Prop :=
  ∃ x' st' ρ' x tst', opSem P op s x' st' ∧ k x tst' ∧ Keep ρ ρ' st tst' ∧ UnV ρ' tst' x x' ∧ UnSt ρ' tst' st'

section
variable {P : Program} {E : Env} {s : AS} {ρ : Rn} {fr : List TV} {st : TStore} {k : TV → TStore → Prop}

theorem TOk.same {op : AOp} {x' : AV} {x : TV} (hst : UnSt ρ st s.st) (hs : opSem P op s x' s.st) (hk : k x st) (hu : UnV ρ st x x') : TOk P op s ρ st k := ⟨x', s.st, ρ, x, st, hs, hk, Keep.refl _ _, hu, hst⟩

theorem opt?_elim {α : Type} {o : Option α} {g : α → Prop} (h : opt? o False g) : ∃ x, o = some x ∧ g x := by
  cases o with
  | none => exact h.elim
  | some x => exact ⟨x, rfl, h⟩
theorem cond_elim {b : Bool} {p : Prop} (h : cond b p False) : b = true ∧ p := by
  cases b with
  | false => exact h.elim
  | true => exact ⟨rfl, h⟩
theorem cond_elim' {b : Bool} {p : Prop} (h : cond b False p) : b = false ∧ p := by
  cases b with
  | true => exact h.elim
  | false => exact ⟨rfl, h⟩
theorem kEq_eq {a b : IntKind} (h : kEq a b = true) : a = b := by simpa [kEq] using h

theorem UnV_int {k : IntKind} {n : Int} : UnV ρ st (.int k n) (.v (.int k n)) := by simp only [UnV]
theorem UnV_b {x : Bool} : UnV ρ st (.b x) (.v (.bool x)) := by simp only [UnV]
theorem UnV_s {x : ByteArray} : UnV ρ st (.s x) (.v (.string x)) := by simp only [UnV]

theorem ibin_sound {op : BinOp} {k1 k2 : IntKind} {a b : Int} {g : TV → Prop} (t : TypeId) (h : ibin op k1 k2 a b False g) : ∃ v x, pureRun P (Go.binOp op t (.int k1 a) (.int k2 b)) = some v ∧ g x ∧ UnV ρ st x (.v v) := by
  cases op <;> simp only [ibin] at h
  case shl =>
    have hb' : ¬ b < 0 := by simpa using (cond_elim' h).1
    refine ⟨_, _, ?_, (cond_elim' h).2, UnV_int⟩
    simp only [Go.binOp, Op.shift, if_neg hb']
    rfl
  case shr =>
    have hb' : ¬ b < 0 := by simpa using (cond_elim' h).1
    refine ⟨_, _, ?_, (cond_elim' h).2, UnV_int⟩
    simp only [Go.binOp, Op.shift, if_neg hb']
    rfl
  case quo =>
    have e := kEq_eq (cond_elim h).1
    have hb' : ¬ b = 0 := by simpa using (cond_elim' (cond_elim h).2).1
    refine ⟨_, _, ?_, (cond_elim' (cond_elim h).2).2, UnV_int⟩
    simp only [Go.binOp, ne_eq, e, not_true_eq_false, if_false, Op.intDiv, if_neg hb']
    rfl
  case rem =>
    have e := kEq_eq (cond_elim h).1
    have hb' : ¬ b = 0 := by simpa using (cond_elim' (cond_elim h).2).1
    refine ⟨_, _, ?_, (cond_elim' (cond_elim h).2).2, UnV_int⟩
    simp only [Go.binOp, ne_eq, e, not_true_eq_false, if_false, Op.intDiv, if_neg hb']
    rfl
  all_goals first
    | exact h.elim
    | (have e := kEq_eq (cond_elim h).1
       refine ⟨_, _, ?_, (cond_elim h).2, (by first | exact UnV_int | exact UnV_b)⟩
       clear h
       subst e
       simp only [Go.binOp, ne_eq, not_true_eq_false, if_false]
       rfl)

theorem sbin_sound {op : BinOp} {a b : ByteArray} {g : TV → Prop} (t : TypeId) (h : sbin op a b False g) : ∃ v x, pureRun P (Go.binOp op t (.string a) (.string b)) = some v ∧ g x ∧ UnV ρ st x (.v v) := by
  cases op <;> simp only [sbin] at h
  case add =>
    have hb' : ¬ ((a.size + b.size : Nat) : Int) > IntKind.i64.max := by
      have : IntKind.i64.max = 9223372036854775807 := by decide
      rw [this]; simpa using (cond_elim' h).1
    refine ⟨_, _, ?_, (cond_elim' h).2, UnV_s⟩
    simp only [Go.binOp, Op.stringOp, if_neg hb']
    rfl
  all_goals first
    | exact h.elim
    | exact ⟨_, _, rfl, h, UnV_b⟩

theorem eqT_sound : ∀ (ks : List Kd) {cs ds : List TV} {ys zs : List AV} {q : Bool}, eqT ks cs ds = some q → UnL ρ st cs ys → UnL ρ st ds zs → ∃ us vs, vals? ys = some us ∧ vals? zs = some vs ∧ eqV ks us vs = some q := by
  intro ks
  induction ks with
  | nil =>
    intro cs ds ys zs q h h1 h2
    unfold eqT at h
    split at h <;> simp_all [UnL]
    exact ⟨[], rfl, [], rfl, by simp [eqV]⟩
  | cons kd ks ih =>
    intro cs ds ys zs q h h1 h2
    unfold eqT at h
    split at h
    · simp_all
    · rename_i k ks' k1 a r k2 b r' e
      obtain ⟨rfl, rfl⟩ := List.cons.inj e
      obtain ⟨y, ys, rfl, g1, l1⟩ := UnL_cons_inv h1
      obtain ⟨z, zs, rfl, g2, l2⟩ := UnL_cons_inv h2
      simp only [UnV] at g1 g2
      cases hk : (kEq k1 k && kEq k2 k) with
      | false => rw [hk] at h; cases h
      | true =>
        rw [hk] at h
        simp only [Bool.and_eq_true] at hk
        have e1 := kEq_eq hk.1
        have e2 := kEq_eq hk.2
        simp only [cond_true] at h
        split at h
        · rename_i q' hq'
          cases h
          obtain ⟨us, vs, e3, e4, e5⟩ := ih hq' l1 l2
          exact ⟨.int k1 a :: us, .int k2 b :: vs, by simp only [g1, vals?, e3, Option.map_some], by simp only [g2, vals?, e4, Option.map_some], by simp [eqV, e1, e2, e5]⟩
        · cases h
    · rename_i ks' a r b r' e
      obtain ⟨rfl, rfl⟩ := List.cons.inj e
      obtain ⟨y, ys, rfl, g1, l1⟩ := UnL_cons_inv h1
      obtain ⟨z, zs, rfl, g2, l2⟩ := UnL_cons_inv h2
      simp only [UnV] at g1 g2
      split at h
      · rename_i q' hq'
        cases h
        obtain ⟨us, vs, e3, e4, e5⟩ := ih hq' l1 l2
        exact ⟨.bool a :: us, .bool b :: vs, by simp only [g1, vals?, e3, Option.map_some], by simp only [g2, vals?, e4, Option.map_some], by simp [eqV, e5]⟩
      · cases h
    · rename_i ks' a r b r' e
      obtain ⟨rfl, rfl⟩ := List.cons.inj e
      obtain ⟨y, ys, rfl, g1, l1⟩ := UnL_cons_inv h1
      obtain ⟨z, zs, rfl, g2, l2⟩ := UnL_cons_inv h2
      simp only [UnV] at g1 g2
      split at h
      · rename_i q' hq'
        cases h
        obtain ⟨us, vs, e3, e4, e5⟩ := ih hq' l1 l2
        exact ⟨.string a :: us, .string b :: vs, by simp only [g1, vals?, e3, Option.map_some], by simp only [g2, vals?, e4, Option.map_some], by simp [eqV, e5]⟩
      · cases h
    · cases h

end
end Go.Am
