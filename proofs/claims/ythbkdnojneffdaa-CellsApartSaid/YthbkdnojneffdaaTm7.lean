/- The typed machine: each operation is sound (2). -/
import Derived.Test.YthbkdnojneffdaaTm6
namespace Go.Am

section
variable {P : Program} {E : Env} {s : AS} {ρ : Rn} {fr : List TV} {st : TStore} {k : TV → TStore → Prop}

theorem UnV_ptr_new {o : TObj} {j : Nat} (t : TypeId) (cs : List TV) (h : o = .blk t cs) : UnV (updR ρ st.length (some j)) (st ++ [o]) (.ptr st.length 0) (.ptr j 0) := by
  subst h
  simp only [UnV, List.getElem?_append_right (Nat.le_refl _), Nat.sub_self, List.getElem?_cons_zero, updR_eq]
  exact ⟨j, rfl, rfl⟩
theorem UnV_ow_new {f : Bool} {t : TypeId} {c : Cd} {l : List (El c)} {j : Nat} {st : TStore} {n : Nat} (hn : n = st.length) : UnV (updR ρ n (some j)) (st ++ [.row f t c l]) (.ow n) (.own j 0 l.length) := by
  subst hn
  simp only [UnV, List.getElem?_append_right (Nat.le_refl _), Nat.sub_self, List.getElem?_cons_zero, updR_eq]

theorem parts_sound (hfr : UnL ρ st fr s.fr) (hst : UnSt ρ st s.st) {c : Cd} : ∀ {ps : List (Nat × Opd)} {i : Nat} {p : List (El c) × List Nat} {es : List (List AV)} {pre : List (List AV)} {sz : Nat}, partsT (evT fr) st c i ps = some p → sz = szC c → pre.length = i → es.length = ps.length →
    ∃ ids', partsA s.ev s.st sz (pre ++ es) ps = some (pre ++ p.1.map (encA c), ids') ∧ ∀ j ∈ ids', ∃ i ∈ p.2, ρ i = some j ∧ Lives st i
  | [], i, p, es, pre, sz, h, _, _, he => by
    simp only [partsT, Option.some.injEq] at h
    subst h
    have : es = [] := List.length_eq_zero_iff.1 he
    subst this
    exact ⟨[], by simp [partsA], by simp⟩
  | (j, x) :: r, i, p, es, pre, sz, h, hsz, hpre, he => by
    simp only [partsT] at h
    cases hb : Nat.beq i j with
    | false => rw [hb] at h; cases h
    | true =>
      rw [hb] at h
      have e := Nat.eq_of_beq_eq_true hb
      subst e
      simp only [cond_true] at h
      split at h
      · rename_i cs hcs
        split at h
        · rename_i ds hds
          split at h
          · rename_i e1 he1
            split at h
            · rename_i p' hp'
              cases h
              obtain ⟨ys, g1, g2⟩ := UnV_cells hcs (UnV_ev hfr x)
              obtain ⟨zs, g3, g4⟩ := reL_sound hst g2 hds
              have e2 := dec_sound g4 he1
              match es, he with
              | a :: es', he =>
                obtain ⟨ids', q1, q2⟩ := parts_sound hfr hst (pre := pre ++ [encA c e1]) (es := es') (sz := sz) hp' hsz (by simp [hpre]) (by simpa using he)
                refine ⟨ys.flatMap idC ++ ids', ?_, fun j' hj' => ?_⟩
                · simp only [partsA, g1, g3]
                  have hset : (pre ++ a :: es').set i zs = pre ++ [encA c e1] ++ es' := by
                    rw [← hpre, e2]
                    simp
                  rw [if_pos ⟨by rw [e2, encA_len, hsz], by simp; omega⟩, hset, q1]
                  simp
                · rcases List.mem_append.1 hj' with hj' | hj'
                  · obtain ⟨i', b1, b2⟩ := reL_ids g2 hds j' hj'
                    exact ⟨i', List.mem_append.2 (.inl b1), b2⟩
                  · obtain ⟨i', b1, b2⟩ := q2 j' hj'
                    exact ⟨i', List.mem_append.2 (.inr b1), b2⟩
            · cases h
          · cases h
        · cases h
      · cases h

theorem call_sound (hE : EnvOk P E) (hst : UnSt ρ st s.st) {v : Bool} {g : FuncId} {ops : List Opd} {xs : List TV} (hx : UnL ρ st xs (ops.map s.ev)) (h : callT E v g xs st False k) (hfn : ∀ sp, E.fn g = some sp → ∀ p, sp.rt = .one p → ∀ f, p ≠ .fn f) (hfn2 : ∀ sp, E.fn g = some sp → ∀ ps, sp.rt = .tup ps → ∀ p ∈ ps, ∀ f, p ≠ .fn f) : TOk P (.call v g ops) s ρ st k := by
  unfold callT at h
  split at h
  · exact h.elim
  · rename_i sp hsp
    obtain ⟨a, ha, h⟩ := opt?_elim h
    obtain ⟨hp, h⟩ := cond_elim h
    have hc := hE.fn g sp hsp a hp
    obtain ⟨d1, d2⟩ := decPs_sound hst hx ha
    have fz : UnSt ρ (freezeT (xs.flatMap TV.ids) st) (freeze ((ops.map s.ev).flatMap AV.ids) s.st) := hst.freeze d2
    have h1 := hfn sp hsp
    have h2 := hfn2 sp hsp
    obtain ⟨ps, rt, pre, fn⟩ := sp
    simp only at h hc ha d1 h1 h2
    cases rt with
    | one p =>
      simp only [resT] at h
      simp only [resA] at hc
      cases hf : p.flat with
      | true =>
        rw [hf] at h
        simp only [Bool.or_true, cond_true] at h
        have hfl := flat_encPA hf (h1 p rfl) (fn a)
        exact ⟨_, s.st, ρ, _, st, ⟨.lend _ _ d1 hc hfl, fun _ => ⟨rfl, _, d1, hc, hfl⟩⟩, h, Keep.refl _ _, UnV_encT p _, hst⟩
      | false =>
        rw [hf] at h
        cases v with
        | true => exact h.elim
        | false => exact ⟨_, _, ρ, _, _, ⟨.pure _ _ d1 hc, fun e => by cases e⟩, h, Keep.freeze _, UnV_encT p _, fz⟩
    | tup ps' =>
      simp only [resT] at h
      simp only [resA] at hc
      cases hf : ps'.all PT.flat with
      | true =>
        rw [hf] at h
        have hfl : ∀ (ps : List PT) (x : dens ps), ps.all PT.flat = true → (∀ p ∈ ps, ∀ f, p ≠ .fn f) → ∀ y ∈ encPAs ps x, Flat y := by
          intro ps
          induction ps with
          | nil => intro x _ _ y hy; simp [encPAs] at hy
          | cons p ps ih =>
            intro x hall hne y hy
            simp only [List.all_cons, Bool.and_eq_true] at hall
            simp only [encPAs, List.mem_cons] at hy
            rcases hy with rfl | hy
            · exact flat_encPA hall.1 (hne p (by simp)) _
            · exact ih x.2 hall.2 (fun q hq => hne q (by simp [hq])) y hy
        simp only [Bool.or_true, cond_true] at h
        have hfl2 : Flat (.tup (encPAs ps' (fn a))) := .tup _ (hfl ps' _ hf (h2 ps' rfl))
        exact ⟨_, s.st, ρ, _, st, ⟨.lend _ _ d1 hc hfl2, fun _ => ⟨rfl, _, d1, hc, hfl2⟩⟩, h, Keep.refl _ _, by simp only [UnV]; exact ⟨_, rfl, UnL_encTs ps' _⟩, hst⟩
      | false =>
        rw [hf] at h
        cases v with
        | true => exact h.elim
        | false => exact ⟨_, _, ρ, _, _, ⟨.pure _ _ d1 hc, fun e => by cases e⟩, h, Keep.freeze _, by simp only [UnV]; exact ⟨_, rfl, UnL_encTs ps' _⟩, fz⟩
    | fresh t c =>
      simp only [resT] at h
      simp only [resA] at hc
      cases v with
      | true => exact h.elim
      | false =>
      simp only [cond_false] at h
      cases hf : flatC c with
      | true =>
        rw [hf] at h
        refine ⟨_, _, updR ρ st.length (some s.st.length), _, _, ⟨.lendF _ t (szC c) _ d1 hc (fun e he y hy => ?_), fun e => by cases e⟩, h, Keep.push _ _, ?_, hst.push ⟨true, [], by simp, fun _ => rfl⟩⟩
        · obtain ⟨x, _, rfl⟩ := List.mem_map.1 he
          exact flat_encA hf x y hy
        · rw [List.length_map]; exact UnV_ow_new rfl
      | false =>
        rw [hf] at h
        have hl : (freeze ((ops.map s.ev).flatMap AV.ids) s.st).length = s.st.length := by simp [freeze]
        have hp := fz.push (o := .row true t c (fn a)) (o' := .row true t (szC c) ((fn a).map (encA c))) ⟨true, [], by simp, fun _ => rfl⟩
        rw [freezeT_len, hl] at hp
        refine ⟨_, _, updR ρ st.length (some s.st.length), _, _, ⟨.fresh _ t (szC c) _ d1 hc, fun e => by cases e⟩, h, ?_, ?_, hp⟩
        · have k1 : Keep ρ ρ st (freezeT (xs.flatMap TV.ids) st) := Keep.freeze _
          have k2 : Keep ρ (updR ρ (freezeT (xs.flatMap TV.ids) st).length (some s.st.length)) (freezeT (xs.flatMap TV.ids) st) (freezeT (xs.flatMap TV.ids) st ++ [.row true t c (fn a)]) := Keep.push _ _
          rw [freezeT_len] at k2
          exact k1.trans k2
        · rw [List.length_map]; exact UnV_ow_new (freezeT_len _ _).symm

end
end Go.Am
