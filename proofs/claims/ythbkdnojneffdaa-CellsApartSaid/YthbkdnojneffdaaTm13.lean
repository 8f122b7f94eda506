/- The typed machine: code is sound; contracts. -/
import Derived.Test.YthbkdnojneffdaaTm12
namespace Go.Am

def ItOk (it : It) : Prop := ∀ {τ o : Type} (b : τ → Stp τ o) (t : τ) (x : o), it b t = some x → ∃ n, iterN b n t = some x

theorem iterN_ok (n : Nat) : ItOk (fun {τ o} b t => iterN b n t) := fun _ _ _ h => ⟨n, h⟩
theorem iterN_succ {τ o : Type} (b : τ → Stp τ o) : ∀ (n : Nat) (t : τ) (x : o), iterN b n t = some x → iterN b (n + 1) t = some x
  | 0, _, _, h => by simp [iterN] at h
  | n + 1, t, x, h => by
    rw [iterN] at h ⊢
    split at h
    · rename_i t' ht; exact iterN_succ b n t' x h
    · exact h
    · exact h
theorem iterN_mono {τ o : Type} (b : τ → Stp τ o) {n m : Nat} (hnm : n ≤ m) (t : τ) (x : o) (h : iterN b n t = some x) : iterN b m t = some x := by
  induction hnm with
  | refl => exact h
  | step _ ih => exact iterN_succ b _ t x ih
theorem iterN_det {τ o : Type} (b : τ → Stp τ o) {n m : Nat} {t : τ} {x y : o} (h : iterN b n t = some x) (h' : iterN b m t = some y) : x = y := by
  have h1 := iterN_mono b (Nat.le_max_left n m) t x h
  have h2 := iterN_mono b (Nat.le_max_right n m) t y h'
  rw [h1] at h2
  exact Option.some.inj h2
theorem iter_of {τ o : Type} {b : τ → Stp τ o} {n : Nat} {t : τ} {x : o} (h : iterN b n t = some x) : iter b t = some x := by
  unfold iter
  have hex : ∃ n x, iterN b n t = some x := ⟨n, x, h⟩
  rw [dif_pos hex]
  exact congrArg some (iterN_det b hex.choose_spec.choose_spec h)
theorem iter_ok : ItOk (fun {_ _} b t => iter b t) := fun b t x h => by
  simp only [iter] at h
  split at h
  · rename_i hex
    cases h
    exact ⟨hex.choose, hex.choose_spec.choose_spec⟩
  · cases h
/-- Rounds with an invariant and a measure. -/
theorem iter_inv {τ o : Type} {b : τ → Stp τ o} (I : τ → Prop) (μ : τ → Nat) (Q : o → Prop) (hb : ∀ t, I t → (∃ t', b t = .next t' ∧ I t' ∧ μ t' < μ t) ∨ ∃ x, b t = .done x ∧ Q x) (t : τ) (h : I t) : ∃ x, iter b t = some x ∧ Q x := by
  have key : ∀ n t, μ t = n → I t → ∃ m x, iterN b m t = some x ∧ Q x := by
    intro n
    induction n using Nat.strongRecOn with
    | _ n ih =>
      intro t hn hI
      rcases hb t hI with ⟨t', e, hI', hlt⟩ | ⟨x, e, hq⟩
      · obtain ⟨m, x, h1, h2⟩ := ih (μ t') (hn ▸ hlt) t' rfl hI'
        exact ⟨m + 1, x, by rw [iterN, e]; exact h1, h2⟩
      · exact ⟨1, x, by rw [iterN, e], hq⟩
  obtain ⟨m, x, h1, h2⟩ := key _ t rfl h
  exact ⟨x, iter_of h1, h2⟩

def TCode.draws : TCode → Bool
  | .reg true ops => drawOk ops
  | .seq a b | .cond _ a b => a.draws && b.draws
  | .block _ a | .loop _ _ a | .unroll _ a | .join _ a => a.draws
  | _ => true

section
variable {P : Program} {E : Env}

theorem Sim.getD {ts : TS} {s : AS} {ρ : Rn} (h : UnL ρ ts.st ts.fr s.fr) (d : Nat) : UnV ρ ts.st (ts.fr.getD d .shut) (s.fr.getD d (.v undef)) := UnV_ev (s := s) h (.t d)

theorem UnL_lit {ρ : Rn} {st : TStore} {fr : List TV} {fr' : List AV} {d : Nat} {x : TV} (h : UnL ρ st fr fr') (hx : fr.getD d .shut = x) : UnL ρ st (fr.set d x) fr' := by
  by_cases hd : d < fr.length
  · have : fr.set d x = fr := by
      subst hx
      rw [List.getD_eq_getElem?_getD, List.getElem?_eq_getElem hd, Option.getD_some]
      exact List.set_getElem_self hd
    rw [this]; exact h
  · rw [List.set_eq_of_length_le (by omega)]; exact h

theorem UnL_setD {ρ : Rn} {st : TStore} {fr : List TV} {s : AS} {d : Option Nat} {x : TV} {y : AV} (h : UnL ρ st fr s.fr) (hx : UnV ρ st x y) : UnL ρ st (setD fr d x) (s.put d y).fr := by
  cases d with
  | none => exact h
  | some d => exact UnL_set d h hx

theorem oper_sound (hE : EnvOk P E) (hP : E.plain) {o : AOper} {ts : TS} {s : AS} {k : TS → Prop} (h : operT E o ts False k) (hs : Sim ts s) : ∃ s' ts', operR P o s s' ∧ k ts' ∧ Sim ts' s' := by
  obtain ⟨ρ, hfr, hst⟩ := hs
  have run : ∀ (fr : List TV), UnL ρ ts.st fr s.fr → wantedA o s = some true → (tsem E o.op (evT fr) ts.st False fun x st => k ⟨setD fr o.dst x, st⟩) → ∃ s' ts', operR P o s s' ∧ k ts' ∧ Sim ts' s' := fun fr hfr hw ht => by
    obtain ⟨x', st', ρ', x, tst', h1, h2, h3, h4, h5⟩ := tsem_sound hE hP hfr hst ht
    exact ⟨_, _, ⟨x', st', .inl ⟨hw, h1⟩, rfl⟩, h2, ρ', UnL_setD (s := { s with st := st' }) (UnL_keep h3 _ _ hfr) h4, by cases o.dst <;> exact h5⟩
  have shut : ∀ (fr : List TV), UnL ρ ts.st fr s.fr → wantedA o s = some false → k ⟨setD fr o.dst .shut, ts.st⟩ → ∃ s' ts', operR P o s s' ∧ k ts' ∧ Sim ts' s' := fun fr hfr hw ht =>
    ⟨_, _, ⟨.v undef, s.st, .inr ⟨hw, rfl, rfl⟩, rfl⟩, ht, ρ, UnL_setD (s := s) hfr (by simp only [UnV]), by cases o.dst <;> exact hst⟩
  unfold operT at h
  split at h
  · rename_i hg
    exact run _ hfr (by simp only [wantedA, hg]) h
  · rename_i d want hg
    have hd := Sim.getD hfr d
    split at h
    · rename_i t ht
      rw [ht] at hd
      have hd := UnV_b_inv hd
      cases t with
      | true =>
        simp only [cond_true] at h
        have hl := UnL_lit hfr ht
        cases want with
        | true => exact run _ hl (by simp only [wantedA, hg, hd]; rfl) h
        | false => exact shut _ hl (by simp only [wantedA, hg, hd]; rfl) h
      | false =>
        simp only [cond_false] at h
        have hl := UnL_lit hfr ht
        cases want with
        | true => exact shut _ hl (by simp only [wantedA, hg, hd]; rfl) h
        | false => exact run _ hl (by simp only [wantedA, hg, hd]; rfl) h
    · rename_i ht
      rw [ht] at hd
      simp only [UnV] at hd
      exact shut _ hfr (by simp only [wantedA, hg, hd]; rfl) h
    · exact h.elim

theorem ops_sound (hE : EnvOk P E) (hP : E.plain) : ∀ {ops : List AOper} {ts : TS} {s : AS} {k : TS → Prop}, opsT E ops ts False k → Sim ts s → ∃ s' ts', opsR P ops s s' ∧ k ts' ∧ Sim ts' s'
  | [], ts, s, k, h, hs => ⟨s, ts, rfl, h, hs⟩
  | o :: r, ts, s, k, h, hs => by
    obtain ⟨s1, ts1, h1, h2, h3⟩ := oper_sound hE hP h hs
    obtain ⟨s2, ts2, g1, g2, g3⟩ := ops_sound hE hP h2 h3
    exact ⟨s2, ts2, ⟨s1, h1, g1⟩, g2, g3⟩

theorem lit_sim {ts : TS} {s : AS} {c : Opd} {t : Bool} (hs : Sim ts s) (ht : evT ts.fr c = .b t) : Sim (litS ts c t) s := by
  obtain ⟨ρ, hfr, hst⟩ := hs
  cases c with
  | t n => exact ⟨ρ, UnL_lit hfr ht, hst⟩
  | c x => exact ⟨ρ, hfr, hst⟩

theorem exec_sound {it : It} (hit : ItOk it) (hE : EnvOk P E) (hP : E.plain) (hm : P.follows .mixedOrders = true) (rt : RT) (rs : List RV) :
    ∀ (c : TCode), c.draws = true → ∀ (kn : TS → Prop) (ke : Nat → TS → Prop) (kr : rt.den → Prop) (ts : TS) (s : AS) (Q : Exit → AS → Prop), exec it E rt rs c Prop kn ke kr False ts → Sim ts s →
      (∀ ts' s', kn ts' → Sim ts' s' → Q .normal s') → (∀ j ts' s', ke j ts' → Sim ts' s' → Q (.exit j) s') → (∀ v ts' s', retT rs ts' rt = some v → kr v → Sim ts' s' → Q .ret s') → W P c.erase Q s := by
  intro c
  induction c with
  | skip => intro _ kn ke kr ts s Q h hs hn he hr; exact W_skip (hn ts s h hs)
  | reg d ops =>
    intro hd kn ke kr ts s Q h hs hn he hr
    obtain ⟨s', ts', h1, h2, h3⟩ := ops_sound hE hP h hs
    cases d with
    | false => exact W_reg h1 (hn ts' s' h2 h3)
    | true => exact W_draw hm hd h1 (hn ts' s' h2 h3)
  | seq a b iha ihb =>
    intro hd kn ke kr ts s Q h hs hn he hr
    simp only [TCode.draws, Bool.and_eq_true] at hd
    refine W_seq (iha hd.1 _ ke kr ts s _ h hs (fun ts' s' hk hs' => ?_) (fun j ts' s' hk hs' => he j ts' s' hk hs') (fun v ts' s' h1 h2 h3 => hr v ts' s' h1 h2 h3))
    exact ihb hd.2 kn ke kr ts' s' Q hk hs' hn he hr
  | cond c a b iha ihb =>
    intro hd kn ke kr ts s Q h hs hn he hr
    simp only [TCode.draws, Bool.and_eq_true] at hd
    simp only [exec] at h
    split at h
    · rename_i t ht
      obtain ⟨ρ, hfr, hst⟩ := hs
      have hc := UnV_ev (s := s) hfr c
      rw [ht] at hc
      have hc := UnV_b_inv hc
      refine W_cond hc (fun e => ?_) (fun e => ?_)
      · subst e
        exact iha hd.1 kn ke kr _ s Q h (lit_sim ⟨ρ, hfr, hst⟩ ht) hn he hr
      · subst e
        exact ihb hd.2 kn ke kr _ s Q h (lit_sim ⟨ρ, hfr, hst⟩ ht) hn he hr
    · exact h.elim
  | block id a iha =>
    intro hd kn ke kr ts s Q h hs hn he hr
    simp only [exec] at h
    refine W_block (iha hd kn _ kr ts s _ h hs (fun ts' s' hk hs' => hn ts' s' hk hs') (fun j ts' s' hk hs' => ?_) (fun v ts' s' h1 h2 h3 => hr v ts' s' h1 h2 h3))
    simp only [blockQ]
    cases hb : Nat.beq j id with
    | true =>
      rw [hb] at hk
      rw [if_pos (Nat.eq_of_beq_eq_true hb)]
      exact hn ts' s' hk hs'
    | false =>
      rw [hb] at hk
      rw [if_neg (fun e => by subst e; simp at hb)]
      exact he j ts' s' hk hs'
  | loop d e a iha =>
    intro hd kn ke kr ts s Q h hs hn he hr
    simp only [exec] at h
    obtain ⟨t, ht, h⟩ := opt?_elim h
    obtain ⟨o, ho, h⟩ := opt?_elim h
    obtain ⟨n, hn'⟩ := hit _ _ _ ho
    clear ho
    refine W_loop (fun (g : Nat × d.den) s => iterN (fun t => exec it E rt rs a (Stp d.den (LO e.den rt.den)) (fun s => opt? (unsh d s) .fail .next) (fun j s => opt? (unsh e s) .fail fun u => .done (.exit j u)) (fun v => .done (.ret v)) .fail (sh d t)) g.1 g.2 = some o ∧ Sim (sh d g.2) s) (fun g => g.1) (n, t) ⟨hn', unsh_sound ht hs⟩ ?_
    rintro ⟨n, t⟩ s ⟨hn, hs⟩
    simp only at hn hs
    cases n with
    | zero => simp [iterN] at hn
    | succ n =>
      rw [iterN] at hn
      split at hn
      · rename_i t' hb
        have hx := hom_exec it E rt rs a _ Prop (fun x => x = Stp.next t') (fun s => opt? (unsh d s) .fail .next) (fun j s => opt? (unsh e s) .fail fun u => .done (LO.exit j u)) (fun v => .done (LO.ret v)) .fail (sh d t)
        simp only [hb, reduceCtorEq] at hx
        refine iha hd _ _ _ _ s _ (hx ▸ trivial) hs (fun ts' s' hk hs' => ?_) (fun j ts' s' hk hs' => ?_) (fun v ts' s' h1 h2 h3 => ?_)
        · cases hu : unsh d ts' with
          | none => rw [hu] at hk; cases hk
          | some t2 =>
            rw [hu] at hk
            simp only [opt?, Stp.next.injEq] at hk
            subst hk
            exact ⟨(n, t2), ⟨hn, unsh_sound hu hs'⟩, Nat.lt_succ_self n⟩
        · cases hu : unsh e ts' with
          | none => rw [hu] at hk; cases hk
          | some u => rw [hu] at hk; cases hk
        · first | cases h2 | exact h2.elim
      · rename_i x hb
        cases hn
        have hx := hom_exec it E rt rs a _ Prop (fun x => x = Stp.done o) (fun s => opt? (unsh d s) .fail .next) (fun j s => opt? (unsh e s) .fail fun u => .done (LO.exit j u)) (fun v => .done (LO.ret v)) .fail (sh d t)
        simp only [hb, reduceCtorEq] at hx
        refine iha hd _ _ _ _ s _ (hx ▸ trivial) hs (fun ts' s' hk hs' => ?_) (fun j ts' s' hk hs' => ?_) (fun v ts' s' h1 h2 h3 => ?_)
        · cases hu : unsh d ts' with
          | none => rw [hu] at hk; cases hk
          | some t2 => rw [hu] at hk; cases hk
        · cases hu : unsh e ts' with
          | none => rw [hu] at hk; cases hk
          | some u =>
            rw [hu] at hk
            simp only [opt?, Stp.done.injEq] at hk
            subst hk
            exact he j _ s' h (unsh_sound hu hs')
        · simp only [Stp.done.injEq] at h2
          subst h2
          exact hr v ts' s' h1 h h3
      · cases hn
  | unroll n a iha =>
    intro hd kn ke kr ts s Q h hs hn he hr
    simp only [exec] at h
    refine W_loop (fun (g : Nat) s => ∃ ts, unrollN g (fun kn s => exec it E rt rs a Prop kn ke kr False s) False ts ∧ Sim ts s) (fun g => g) n ⟨ts, h, hs⟩ ?_
    rintro g s ⟨ts, h, hs⟩
    cases g with
    | zero => exact h.elim
    | succ g =>
      simp only [unrollN] at h
      exact iha hd _ ke kr ts s _ h hs (fun ts' s' hk hs' => ⟨g, ⟨ts', hk, hs'⟩, Nat.lt_succ_self g⟩) (fun j ts' s' hk hs' => he j ts' s' hk hs') (fun v ts' s' h1 h2 h3 => hr v ts' s' h1 h2 h3)
  | join d a iha =>
    intro hd kn ke kr ts s Q h hs hn he hr
    simp only [exec] at h
    have key : ∀ (o : JO d.den rt.den), o ≠ .fail → exec it E rt rs a (JO d.den rt.den) (fun s => opt? (unsh d s) .fail .norm) (fun j s => opt? (unsh d s) .fail (.exit j)) (fun v => .ret v) .fail ts = o → (∀ t s', o = .norm t → Sim (sh d t) s' → Q .normal s') → (∀ j t s', o = .exit j t → Sim (sh d t) s' → Q (.exit j) s') → (∀ v ts' s', o = .ret v → retT rs ts' rt = some v → Sim ts' s' → Q .ret s') → W P (TCode.join d a).erase Q s := fun o hne hb g1 g2 g3 => by
      have hx := hom_exec it E rt rs a _ Prop (fun x => x = o) (fun s => opt? (unsh d s) .fail .norm) (fun j s => opt? (unsh d s) .fail (.exit j)) (fun v => .ret v) .fail ts
      have hf : (JO.fail = o) = False := by simp only [eq_iff_iff, iff_false]; exact fun e => hne e.symm
      simp only [hb, hf] at hx
      refine iha hd _ _ _ _ s _ (hx ▸ trivial) hs (fun ts' s' hk hs' => ?_) (fun j ts' s' hk hs' => ?_) (fun v ts' s' h1 h2 h3 => ?_)
      · cases hu : unsh d ts' with
        | none => rw [hu] at hk; exact absurd hk.symm hne
        | some t2 => rw [hu] at hk; exact g1 t2 s' hk.symm (unsh_sound hu hs')
      · cases hu : unsh d ts' with
        | none => rw [hu] at hk; exact absurd hk.symm hne
        | some t2 => rw [hu] at hk; exact g2 j t2 s' hk.symm (unsh_sound hu hs')
      · exact g3 v ts' s' h2.symm h1 h3
    split at h
    · rename_i t hb
      exact key _ (by simp) hb (fun t' s' e hs' => by cases e; exact hn _ s' h hs') (fun j t' s' e => by cases e) (fun v ts' s' e => by cases e)
    · rename_i j t hb
      exact key _ (by simp) hb (fun t' s' e => by cases e) (fun j' t' s' e hs' => by cases e; exact he _ _ s' h hs') (fun v ts' s' e => by cases e)
    · rename_i v hb
      exact key _ (by simp) hb (fun t' s' e => by cases e) (fun j t' s' e => by cases e) (fun v' ts' s' e h1 h2 => by cases e; exact hr _ ts' s' h1 h h2)
    · exact h.elim
  | exit id => intro _ kn ke kr ts s Q h hs hn he hr; exact W_exit (he id ts s h hs)
  | ret =>
    intro _ kn ke kr ts s Q h hs hn he hr
    simp only [exec] at h
    obtain ⟨v, hv, h⟩ := opt?_elim h
    exact W_ret (hr v ts s hv h hs)

theorem rv_sound {ts : TS} {s : AS} {ρ : Rn} (hfr : UnL ρ ts.st ts.fr s.fr) (hst : UnSt ρ ts.st s.st) {x : RV} {v : TV} (h : rvT ts x = some v) : ∃ v', rvA s x = some v' ∧ UnV ρ ts.st v v' := by
  cases x with
  | tmp t => simp only [rvT, Option.some.injEq] at h; subst h; exact ⟨_, rfl, Sim.getD hfr t⟩
  | cell t agg sz =>
    simp only [rvT] at h
    have hd := Sim.getD hfr t
    split at h
    · rename_i id off ht
      rw [ht] at hd
      split at h
      · rename_i t' cs hi
        obtain ⟨j, hj, e⟩ := UnV_ptr_blk hd hi
        obtain ⟨j', ys, b1, b2, b3⟩ := hst.blk hi
        rw [hj] at b1
        cases b1
        obtain ⟨y, g1, g2⟩ := UnV_getCells b3 h
        exact ⟨y, by simp only [rvA, e, b2, g1], g2⟩
      · cases h
    · cases h
theorem rvs_sound {ts : TS} {s : AS} {ρ : Rn} (hfr : UnL ρ ts.st ts.fr s.fr) (hst : UnSt ρ ts.st s.st) : ∀ {xs : List RV} {vs : List TV}, rvsT ts xs = some vs → ∃ vs', rvsA s xs = some vs' ∧ UnL ρ ts.st vs vs'
  | [], vs, h => by simp only [rvsT, Option.some.injEq] at h; subst h; exact ⟨[], rfl, UnL_nil⟩
  | x :: r, vs, h => by
    simp only [rvsT] at h
    split at h
    · rename_i y hy
      split at h
      · rename_i ys hys
        cases h
        obtain ⟨v', a1, a2⟩ := rv_sound hfr hst hy
        obtain ⟨vs', b1, b2⟩ := rvs_sound hfr hst hys
        exact ⟨v' :: vs', by simp [rvsA, a1, b1], UnL_cons a2 b2⟩
      · cases h
    · cases h

theorem ret_sound {ts : TS} {s : AS} (hs : Sim ts s) {rs : List RV} {rt : RT} {v : rt.den} (h : retT rs ts rt = some v) : RetOk rs s (resA rt v) := by
  obtain ⟨ρ, hfr, hst⟩ := hs
  cases rt with
  | one p =>
    simp only [retT] at h
    split at h
    · rename_i x
      split at h
      · rename_i y hy
        obtain ⟨v', a1, a2⟩ := rv_sound hfr hst hy
        exact ⟨v', a1, .inl ⟨_, decP_sound hst a2 h, rfl⟩⟩
      · cases h
    · cases h
  | fresh t c =>
    simp only [retT] at h
    split at h
    · rename_i x
      split at h
      · rename_i y hy
        obtain ⟨v', a1, a2⟩ := rv_sound hfr hst hy
        refine ⟨v', a1, ?_⟩
        cases y <;> simp only [freshT, reduceCtorEq] at h
        case nils =>
          cases h
          simp only [UnV] at a2
          exact .inr (.inr ⟨t, szC c, a2, rfl⟩)
        case ow i =>
          split at h
          · rename_i t' c' l hi
            cases hb : Nat.beq t t' with
            | false => rw [hb] at h; cases h
            | true =>
              rw [hb] at h
              have := Nat.eq_of_beq_eq_true hb
              subst this
              obtain ⟨ec, el⟩ := castL_some h
              subst ec
              simp only at el
              subst el
              rcases UnV_ow_row a2 hi with ⟨hj, e⟩ | ⟨j, hj, e⟩
              · have := hst.row_nil hi hj
                subst this
                exact .inr (.inr ⟨t, szC c', e, rfl⟩)
              · obtain ⟨f', es, g1, g2⟩ := hst.row hi hj
                have := g2 rfl
                subst this
                exact .inr (.inl ⟨j, t, szC c', l.map (encA c'), es, by rw [List.length_map]; exact e, g1, rfl⟩)
          · cases h
      · cases h
    · cases h
  | tup ps =>
    simp only [retT] at h
    split at h
    · cases h
    · rename_i hne
      split at h
      · rename_i vs hvs
        obtain ⟨vs', b1, b2⟩ := rvs_sound hfr hst hvs
        obtain ⟨d1, _⟩ := decPs_sound hst b2 h
        unfold RetOk
        split
        · rename_i x; exact absurd rfl (hne x)
        · exact ⟨vs', _, b1, d1, rfl⟩
      · cases h

/-- A function's contract. -/
theorem TFn.contract {it : It} (hit : ItOk it) (hE : EnvOk P E) (hP : E.plain) (hm : P.follows .mixedOrders = true) {f : FuncId} {fn : Func} {g : TFn} (hf : P.funcs[f]? = some fn) (hc : compFn P fn = some ⟨g.body.erase, g.res, g.n⟩) (hd : g.body.draws = true) {ps : List PT} {rt : RT} {xs : dens ps} {r : rt.den} (hr : g.run it E ps rt xs = some r) :
    Contract P f (encPAs ps xs) (resA rt r) := by
  refine contract_fn hf hc ?_
  unfold TFn.run at hr
  have hx := hom_exec it E rt g.res g.body _ Prop (fun x => x = some r) (fun s => retT g.res s rt) (fun _ _ => none) some none (g.start (encTs ps xs))
  simp only [hr, reduceCtorEq] at hx
  have hlen : (encPAs ps xs).length = (encTs ps xs).length := UnL_len (UnL_encTs (ρ := fun _ => none) (st := []) ps xs)
  have hsim : Sim (g.start (encTs ps xs)) (AFn.start ⟨g.body.erase, g.res, g.n⟩ (encPAs ps xs)) := by
    refine ⟨fun _ => none, ?_, ⟨fun i o ho => by simp [TFn.start] at ho, fun i k j o o' ho => by simp [TFn.start] at ho, fun i j o ho => by simp [TFn.start] at ho⟩⟩
    have rep : ∀ n, UnL (fun _ => none) [] (List.replicate n .shut) (List.replicate n (AV.v undef)) := by
      intro n
      induction n with
      | zero => exact UnL_nil
      | succ n ih => rw [List.replicate_succ, List.replicate_succ]; exact UnL_cons (by simp only [UnV]) ih
    simp only [TFn.start, AFn.start, hlen]
    exact UnL_append (UnL_encTs ps xs) (rep _)
  refine exec_sound hit hE hP hm rt g.res g.body hd _ _ _ _ _ _ (hx ▸ trivial) hsim (fun ts' s' hk hs' => ret_sound hs' hk) (fun j ts' s' hk => by first | cases hk | exact hk.elim) (fun v ts' s' h1 h2 h3 => ?_)
  simp only [Option.some.injEq] at h2
  subst h2
  exact ret_sound h3 h1

end
end Go.Am
