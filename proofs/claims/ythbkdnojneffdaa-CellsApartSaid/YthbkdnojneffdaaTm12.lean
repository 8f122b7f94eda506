/- The typed machine: a state in a shape. -/
import Derived.Test.YthbkdnojneffdaaTm11
namespace Go.Am

section
variable {ρ ρ' : Rn} {st st' : TStore}

theorem vsOf_un {c : Cd} {x : TV} {y : AV} {l : List (El c)} (h : UnV ρ st x y) (hv : vsOf c x = some l) : UnV ρ' st' (.vs c l) y := by
  cases x <;> simp only [vsOf, reduceCtorEq] at hv
  case nils => cases hv; simp only [UnV] at h ⊢; exact .inr ⟨trivial, h⟩
  case vs c' l' =>
    split at hv
    · rename_i e; subst e; cases hv; simp only [UnV] at h ⊢; exact h
    · cases hv

theorem dec_un {c : Cd} {cs : List TV} {ys : List AV} {a : El c} (hd : dec c cs = some a) (h : UnL ρ st cs ys) : UnL ρ' st' (enc c a) ys := by
  unfold dec at hd
  split at hd
  case h_1 =>
    simp only [UnL] at h
    obtain ⟨z0, _, rfl, h0, h⟩ := h
    simp only [UnV] at h0
    cases hd
    subst h0 h
    exact UnL_cons UnV_int (UnL_nil)
  case h_2 =>
    simp only [UnL] at h
    obtain ⟨z0, _, rfl, h0, h⟩ := h
    simp only [UnV] at h0
    cases hd
    subst h0 h
    exact UnL_cons UnV_int (UnL_nil)
  case h_3 =>
    simp only [UnL] at h
    obtain ⟨z0, _, rfl, h0, h⟩ := h
    simp only [UnV] at h0
    cases hd
    subst h0 h
    exact UnL_cons UnV_int (UnL_nil)
  case h_4 =>
    simp only [UnL] at h
    obtain ⟨z0, _, rfl, h0, h⟩ := h
    simp only [UnV] at h0
    cases hd
    subst h0 h
    exact UnL_cons UnV_b (UnL_nil)
  case h_5 =>
    simp only [UnL] at h
    obtain ⟨z0, _, rfl, h0, h⟩ := h
    simp only [UnV] at h0
    cases hd
    subst h0 h
    exact UnL_cons UnV_s (UnL_nil)
  case h_6 =>
    simp only [UnL] at h
    obtain ⟨z0, _, rfl, h0, z1, _, rfl, h1, z2, _, rfl, h2, z3, _, rfl, h3, h⟩ := h
    simp only [UnV] at h0 h1 h2 h3
    cases hd
    subst h0 h1 h2 h3 h
    exact UnL_cons UnV_int (UnL_cons UnV_b (UnL_cons UnV_s (UnL_cons UnV_int (UnL_nil))))
  case h_7 =>
    simp only [UnL] at h
    obtain ⟨z0, _, rfl, h0, z1, _, rfl, h1, z2, _, rfl, h2, z3, _, rfl, h3, z4, _, rfl, h4, z5, _, rfl, h5, h⟩ := h
    simp only [UnV] at h0 h1 h2 h3 h4 h5
    cases hd
    subst h0 h1 h2 h3 h4 h5 h
    exact UnL_cons UnV_int (UnL_cons UnV_int (UnL_cons UnV_int (UnL_cons UnV_b (UnL_cons UnV_s (UnL_cons UnV_int (UnL_nil))))))
  case h_8 =>
    simp only [UnL] at h
    obtain ⟨z0, _, rfl, h0, z1, _, rfl, h1, z2, _, rfl, h2, z3, _, rfl, h3, z4, _, rfl, h4, h⟩ := h
    simp only [UnV] at h0 h1 h2 h3 h4
    cases hd
    subst h0 h1 h2 h3 h4 h
    exact UnL_cons UnV_int (UnL_cons UnV_int (UnL_cons UnV_b (UnL_cons UnV_s (UnL_cons UnV_int (UnL_nil)))))
  case h_9 =>
    simp only [UnL] at h
    obtain ⟨z0, _, rfl, h0, z1, _, rfl, h1, z2, _, rfl, h2, h⟩ := h
    simp only [UnV] at h0 h1
    simp only [Option.map_eq_some_iff] at hd
    obtain ⟨l, hl, rfl⟩ := hd
    have e2 := vsOf_un (ρ' := ρ') (st' := st') h2 hl
    subst h0 h1 h
    exact UnL_cons UnV_int (UnL_cons UnV_int (UnL_cons e2 (UnL_nil)))
  case h_10 =>
    simp only [UnL] at h
    obtain ⟨z0, _, rfl, h0, z1, _, rfl, h1, h⟩ := h
    simp only [UnV] at h0 h1
    cases hd
    subst h0 h1 h
    exact UnL_cons UnV_int (UnL_cons UnV_int (UnL_nil))
  case h_11 =>
    simp only [UnL] at h
    obtain ⟨z0, _, rfl, h0, z1, _, rfl, h1, z2, _, rfl, h2, z3, _, rfl, h3, z4, _, rfl, h4, h⟩ := h
    simp only [UnV] at h0 h3
    split at hd
    · rename_i p q w e1 e2 e3
      cases hd
      have e1 := vsOf_un (ρ' := ρ') (st' := st') h1 e1
      have e2 := vsOf_un (ρ' := ρ') (st' := st') h2 e2
      have e4 := vsOf_un (ρ' := ρ') (st' := st') h4 e3
      subst h0 h3 h
      exact UnL_cons UnV_int (UnL_cons e1 (UnL_cons e2 (UnL_cons UnV_s (UnL_cons e4 UnL_nil))))
    · cases hd
  case h_12 =>
    simp only [UnL] at h
    obtain ⟨z0, _, rfl, h0, z1, _, rfl, h1, z2, _, rfl, h2, h⟩ := h
    simp only [UnV] at h0 h1 h2
    cases hd
    subst h0 h1 h2 h
    exact UnL_cons UnV_int (UnL_cons UnV_int (UnL_cons UnV_int (UnL_nil)))
  case h_13 =>
    simp only [UnL] at h
    obtain ⟨z0, _, rfl, h0, h⟩ := h
    have e0 := vsOf_un (ρ' := ρ') (st' := st') h0 hd
    subst  h
    exact UnL_cons e0 (UnL_nil)
  case h_14 =>
    simp only [UnL] at h
    obtain ⟨z0, _, rfl, h0, z1, _, rfl, h1, h⟩ := h
    unfold b2 at hd
    split at hd
    · rename_i a e0
      split at hd
      · rename_i b e1
        cases hd
        have e0 := vsOf_un (ρ' := ρ') (st' := st') h0 e0
        have e1 := vsOf_un (ρ' := ρ') (st' := st') h1 e1
        subst h
        exact UnL_cons e0 (UnL_cons e1 UnL_nil)
      · cases hd
    · cases hd
  case h_15 =>
    simp only [UnL] at h
    obtain ⟨z0, _, rfl, h0, z1, _, rfl, h1, z2, _, rfl, h2, h⟩ := h
    simp only [UnV] at h0 h1 h2
    cases hd
    subst h0 h1 h2 h
    exact UnL_cons UnV_int (UnL_cons UnV_int (UnL_cons UnV_int (UnL_nil)))
  case h_16 =>
    simp only [UnL] at h
    obtain ⟨z0, _, rfl, h0, h⟩ := h
    have e0 := vsOf_un (ρ' := ρ') (st' := st') h0 hd
    subst  h
    exact UnL_cons e0 (UnL_nil)
  case h_17 => cases hd

theorem castO_some {c c' : Cd} {o : Option (El c)} {o' : Option (El c')} (h : castO c c' o = some o') : ∃ e : c = c', e ▸ o = o' := by
  unfold castO at h
  split at h
  · rename_i e; exact ⟨e, by simpa using h⟩
  · cases h

theorem optOf_un {c : Cd} {x : TV} {y : AV} {o : Option (El c)} (h : UnV ρ st x y) (hv : optOf c x = some o) : UnV ρ' st' (.opt c o) y := by
  unfold optOf at hv
  split at hv
  · rename_i c' o'
    obtain ⟨rfl, rfl⟩ := castO_some hv
    simp only [UnV] at h ⊢
    exact h
  · rename_i c' x
    obtain ⟨rfl, rfl⟩ := castO_some hv
    simp only [UnV] at h ⊢
    exact h
  · cases hv
    simp only [UnV] at h ⊢
    exact h
  · cases hv

/-- Slots. -/
theorem unF_sound {m : List Wh} (hρ : ∀ (i : Nat) (w : Wh), m[i]? = some w → ObjOk st st' i w ∧ ρ' i = match w with | .is j | .cut j _ => ρ j | _ => none) :
    ∀ {d : List STy} {xs : List TV} {ys : List AV} {a : denF d}, AsgOk m d xs → unF st d xs = some a → UnL ρ st xs ys → UnL ρ' st' (shF d a) ys
  | [], [], ys, a, _, _, h => by simp only [UnL] at h; subst h; exact UnL_nil
  | [], _ :: _, _, _, h, _, _ => h.elim
  | t :: r, [], ys, a, hA, hu, h => by cases t <;> exact hA.elim
  | t :: r, x :: xs, ys, a, hA, hu, h => by
    obtain ⟨z, zs, rfl, h1, h2⟩ := UnL_cons_inv h
    cases t with
    | und => simp only [unF] at hu; exact UnL_cons (by simp only [UnV]) (unF_sound hρ (d := r) hA hu h2)
    | int k =>
      cases x <;> simp only [unF, reduceCtorEq] at hu
      rename_i k' n
      cases hb : kEq k k' with
      | false => rw [hb] at hu; cases hu
      | true =>
        rw [hb] at hu
        have e := kEq_eq hb
        subst e
        simp only [cond_true] at hu
        split at hu
        · rename_i y hy; cases hu; simp only [UnV] at h1; subst h1; exact UnL_cons UnV_int (unF_sound hρ (d := r) hA hy h2)
        · cases hu
    | b =>
      cases x <;> simp only [unF, reduceCtorEq] at hu
      split at hu
      · rename_i y hy; cases hu; simp only [UnV] at h1; subst h1; exact UnL_cons UnV_b (unF_sound hρ (d := r) hA hy h2)
      · cases hu
    | s =>
      cases x <;> simp only [unF, reduceCtorEq] at hu
      split at hu
      · rename_i y hy; cases hu; simp only [UnV] at h1; subst h1; exact UnL_cons UnV_s (unF_sound hρ (d := r) hA hy h2)
      · cases hu
    | agg c =>
      cases x <;> simp only [unF, reduceCtorEq] at hu
      split at hu
      · rename_i e he
        split at hu
        · rename_i y hy
          cases hu
          obtain ⟨qs, rfl, hq⟩ := UnV_agg_inv h1
          exact UnL_cons (by simp only [UnV]; exact ⟨qs, rfl, dec_un he hq⟩) (unF_sound hρ (d := r) hA hy h2)
        · cases hu
      · cases hu
    | vs c =>
      cases x <;> simp only [unF, reduceCtorEq] at hu
      case nils =>
        split at hu
        · rename_i y hy; cases hu; simp only [UnV] at h1; exact UnL_cons (by simp only [UnV]; exact .inr ⟨trivial, h1⟩) (unF_sound hρ (d := r) hA hy h2)
        · cases hu
      case vs c' l =>
        split at hu
        · rename_i e he
          obtain ⟨ec, el⟩ := castL_some he
          subst ec
          simp only at el
          subst el
          split at hu
          · rename_i y hy; cases hu; exact UnL_cons (by simp only [UnV] at h1 ⊢; exact h1) (unF_sound hρ (d := r) hA hy h2)
          · cases hu
        · cases hu
    | opt c =>
      simp only [unF] at hu
      split at hu
      · rename_i e he
        split at hu
        · rename_i y hy; cases hu; exact UnL_cons (optOf_un h1 he) (unF_sound hρ (d := r) hA hy h2)
        · cases hu
      · cases hu
    | fn g =>
      cases x <;> simp only [unF, reduceCtorEq] at hu
      rename_i g'
      cases hb : Nat.beq g g' with
      | false => rw [hb] at hu; cases hu
      | true =>
        rw [hb] at hu
        have := Nat.eq_of_beq_eq_true hb
        subst this
        exact UnL_cons (by simp only [UnV] at h1 ⊢; exact h1) (unF_sound hρ (d := r) hA hu h2)
    | ow i =>
      have hu' : unF st r xs = some a := by cases x <;> simpa only [unF] using hu
      refine UnL_cons ?_ (unF_sound hρ (d := r) hA.2 hu' h2)
      rcases hA.1 with ⟨j, rfl, hm⟩ | ⟨j, n, rfl, hm⟩ | ⟨rfl, hm⟩
      · obtain ⟨ho, hr⟩ := hρ i _ hm
        simp only at hr
        rcases ho with ⟨t, ws, ws', o1, o2⟩ | ⟨f, t, c, l, o1, o2⟩
        · simp only [UnV, o1, o2] at h1 ⊢; exact h1
        · simp only [UnV, o1, o2, hr] at h1 ⊢; exact h1
      · obtain ⟨⟨f, t, c, l, o1, o2⟩, hr⟩ := hρ i _ hm
        simp only at hr
        simp only [UnV, o1, o2, hr] at h1 ⊢
        obtain ⟨hle, h1⟩ := h1
        rw [List.length_take, Nat.min_eq_left (by omega)]
        exact h1
      · obtain ⟨⟨t, c, o2⟩, hr⟩ := hρ i _ hm
        simp only at hr
        simp only [UnV] at h1
        simp only [UnV, o2, hr, h1]
    | ptr i o =>
      have hu' : unF st r xs = some a := by cases x <;> simpa only [unF] using hu
      refine UnL_cons ?_ (unF_sound hρ (d := r) hA.2 hu' h2)
      obtain ⟨j, rfl, hm⟩ := hA.1
      obtain ⟨ho, hr⟩ := hρ i _ hm
      simp only at hr
      rcases ho with ⟨t, ws, ws', o1, o2⟩ | ⟨f, t, c, l, o1, o2⟩
      · simp only [UnV, o1, o2, hr] at h1 ⊢; exact h1
      · simp only [UnV, o1, o2] at h1 ⊢; exact h1

end

theorem whIds_nodup : ∀ {m : List Wh}, nodupB (whIds m) = true → ∀ (i k j : Nat) (w w' : Wh), m[i]? = some w → m[k]? = some w' → (w = .is j ∨ ∃ n, w = .cut j n) → (w' = .is j ∨ ∃ n, w' = .cut j n) → i = k := by
  intro m
  have mem : ∀ {m : List Wh} {k j : Nat} {w : Wh}, m[k]? = some w → (w = .is j ∨ ∃ n, w = .cut j n) → j ∈ whIds m := by
    intro m
    induction m with
    | nil => intro k j w hk; simp at hk
    | cons a m ih =>
      intro k j w hk hw
      cases k with
      | zero => simp at hk; subst hk; rcases hw with rfl | ⟨n, rfl⟩ <;> simp [whIds]
      | succ k =>
        have := ih (k := k) (by simpa using hk) hw
        cases a <;> simp [whIds, this]
  induction m with
  | nil => intro _ i k j w w' hi; simp at hi
  | cons a m ih =>
    intro hn i k j w w' hi hk hw hw'
    have hn' : nodupB (whIds m) = true := by cases a <;> simp_all [whIds, nodupB]
    have hnot : ∀ j, (a = .is j ∨ ∃ n, a = .cut j n) → j ∉ whIds m := fun j ha => by
      rcases ha with rfl | ⟨n, rfl⟩ <;> simp_all [whIds, nodupB]
    cases i with
    | zero =>
      simp at hi
      subst hi
      cases k with
      | zero => rfl
      | succ k => exact absurd (mem (by simpa using hk) hw') (hnot j hw)
    | succ i =>
      cases k with
      | zero => simp at hk; subst hk; exact absurd (mem (by simpa using hi) hw) (hnot j hw')
      | succ k => exact congrArg (· + 1) (ih hn' i k j w w' (by simpa using hi) (by simpa using hk) hw hw')

/-- A state in a shape stands for what the state stands for. -/
theorem unsh_sound {d : Shape} {ts : TS} {x : d.den} {s : AS} (h : unsh d ts = some x) (hs : Sim ts s) : Sim (sh d x) s := by
  obtain ⟨ρ, hfr, hst⟩ := hs
  unfold unsh at h
  split at h
  · rename_i m hm
    split at h
    · rename_i a ha
      split at h
      · rename_i b hb
        cases h
        unfold whAll at hm
        split at hm
        · rename_i m1 h1
          split at hm
          · rename_i m2 h2
            cases hn : nodupB (whIds m2) with
            | false => rw [hn] at hm; cases hm
            | true =>
              rw [hn] at hm
              cases hm
              obtain ⟨_, hA⟩ := asgF_spec h1
              obtain ⟨le, hB⟩ := asgO_spec h2
              have hA := hA.mono le
              obtain ⟨u1, u2, u3⟩ := unO_spec hb
              let ρ' : Rn := fun i => match m[i]? with | some (.is j) => ρ j | some (.cut j _) => ρ j | _ => none
              have hρ : ∀ (i : Nat) (w : Wh), m[i]? = some w → ObjOk ts.st (shO d.st b) i w ∧ ρ' i = match w with | .is j | .cut j _ => ρ j | _ => none := fun i w hi => by
                refine ⟨u3 i w hi, ?_⟩
                simp only [ρ', hi]
                cases w <;> rfl
              have hbl := unO_blks (st' := shO d.st b) (m0 := m) (n := 0) hb (fun i w hi => by rw [Nat.zero_add]; exact hi) (fun i o ho => by rw [Nat.zero_add]; exact ho)
              have whOf : ∀ (i : Nat) (o : TObj), (shO d.st b)[i]? = some o → ∃ w, m[i]? = some w := fun i o ho => by
                have hlt := (List.getElem?_eq_some_iff.1 ho).1
                have : i < m.length := by omega
                exact ⟨m[i], List.getElem?_eq_getElem this⟩
              have live : ∀ (i j : Nat) (o : TObj), (shO d.st b)[i]? = some o → ρ' i = some j → ∃ (w : Wh) (q : Nat) (o' : TObj), m[i]? = some w ∧ (w = .is q ∨ ∃ n, w = .cut q n) ∧ ρ q = some j ∧ ts.st[q]? = some o' ∧ o' ≠ .gone := fun i j o ho hj => by
                obtain ⟨w, hw⟩ := whOf i o ho
                obtain ⟨hok, hr⟩ := hρ i w hw
                rw [hr] at hj
                cases w with
                | no => cases hj
                | nil => cases hj
                | is q =>
                  rcases hok with ⟨t, xs, xs', o1, _⟩ | ⟨f, t, c, l, o1, _⟩
                  · exact ⟨_, q, _, hw, .inl rfl, hj, o1, by simp⟩
                  · exact ⟨_, q, _, hw, .inl rfl, hj, o1, by simp⟩
                | cut q n =>
                  obtain ⟨f, t, c, l, o1, _⟩ := hok
                  exact ⟨_, q, _, hw, .inr ⟨n, rfl⟩, hj, o1, by simp⟩
              refine ⟨ρ', unF_sound hρ hA ha hfr, ⟨fun i o ho => ?_, fun i k j o o' ho ho' hg hg' hi hk => ?_, fun i j o ho hg hj => ?_⟩⟩
              · cases o with
                | gone => trivial
                | blk t cs =>
                  -- its cells
                  have key : ∀ (n : Nat) (q : List OTy) (y : denO q) (k : Nat), Blks ts.st m (shO d.st b) n q y → AsgB ts.st m n q → (shO q y)[k]? = some (.blk t cs) → ∃ (j : Nat) (sc : List STy) (z : denF sc) (xs : List TV), m[n + k]? = some (.is j) ∧ ts.st[j]? = some (.blk t xs) ∧ AsgOk m sc xs ∧ unF ts.st sc xs = some z ∧ cs = shF sc z := by
                    intro n q
                    induction q generalizing n with
                    | nil => intro y k _ _ hk; simp [shO] at hk
                    | cons t0 q ih =>
                      intro y k hbl hab hk
                      cases t0 with
                      | blk t1 sc =>
                        cases k with
                        | zero =>
                          simp only [shO, List.getElem?_cons_zero, Option.some.injEq, TObj.blk.injEq] at hk
                          obtain ⟨rfl, rfl⟩ := hk
                          obtain ⟨⟨j, xs, b1, b2, b3, _⟩, _⟩ := hbl
                          obtain ⟨⟨j', t', xs', c1, c2, c3⟩, _⟩ := hab
                          rw [b1] at c1
                          cases c1
                          rw [b2] at c2
                          cases c2
                          exact ⟨j, sc, y.1, xs, b1, b2, c3, b3, rfl⟩
                        | succ k =>
                          have := ih (n + 1) y.2 k hbl.2 hab.2 (by simpa [shO] using hk)
                          rwa [show n + 1 + k = n + (k + 1) from by omega] at this
                      | row f t1 c =>
                        cases k with
                        | zero => simp [shO] at hk
                        | succ k =>
                          have := ih (n + 1) y.2 k hbl hab (by simpa [shO] using hk)
                          rwa [show n + 1 + k = n + (k + 1) from by omega] at this
                  obtain ⟨j, sc, z, xs, k1, k2, k3, k4, rfl⟩ := key 0 d.st b i hbl hB ho
                  rw [Nat.zero_add] at k1
                  obtain ⟨j2, ys, a1, a2, a3⟩ := hst.blk k2
                  obtain ⟨_, hr⟩ := hρ i _ k1
                  simp only at hr
                  exact ⟨j2, ys, hr.trans a1, a2, unF_sound hρ k3 k4 a3⟩
                | row f t c l =>
                  obtain ⟨w, hw⟩ := whOf i _ ho
                  obtain ⟨hok, hr⟩ := hρ i w hw
                  simp only [UnO, hr]
                  cases w with
                  | no => exact hok.elim
                  | nil =>
                    obtain ⟨t', c', o2⟩ := hok
                    have o2 : (shO d.st b)[i]? = _ := o2
                    have ho : (shO d.st b)[i]? = _ := ho
                    rw [o2] at ho
                    cases ho
                    rfl
                  | is q =>
                    rcases hok with ⟨t', xs, xs', o1, o2⟩ | ⟨f', t', c', l', o1, o2⟩
                    · have ho : (shO d.st b)[i]? = _ := ho
                      rw [o2] at ho; cases ho
                    · have ho : (shO d.st b)[i]? = _ := ho
                      rw [o2] at ho
                      cases ho
                      have := hst.obj q _ o1
                      simpa only [UnO] using this
                  | cut q n =>
                    obtain ⟨f', t', c', l', o1, o2⟩ := hok
                    have ho : (shO d.st b)[i]? = _ := ho
                    rw [o2] at ho
                    cases ho
                    have := hst.obj q _ o1
                    simp only [UnO] at this
                    simp only
                    split at this
                    · obtain ⟨f2, es, a1, a2⟩ := this
                      refine ⟨f2, (l'.drop n).map (encA _) ++ es, ?_, a2⟩
                      rw [a1, ← List.append_assoc, ← List.map_append, List.take_append_drop]
                    · subst this; simp
              · obtain ⟨w, q, o1, w1, w2, w3, w4, w5⟩ := live i j o ho hi
                obtain ⟨w', q', o1', w1', w2', w3', w4', w5'⟩ := live k j o' ho' hk
                have := hst.inj q q' j o1 o1' w4 w4' w5 w5' w3 w3'
                subst this
                exact whIds_nodup hn i k q w w' w1 w1' w2 w2'
              · obtain ⟨w, q, o1, w1, w2, w3, w4, w5⟩ := live i j o ho hj
                exact hst.lt q j o1 w4 w5 w3
          · cases hm
        · cases hm
      · cases h
    · cases h
  · cases h

end Go.Am
