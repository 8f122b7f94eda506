/- The abstract machine: the rules for code, and contracts out of bodies. -/
import Derived.Test.YthbkdnojneffdaaAmDraw3
namespace Go.Am
open Go.RowKit

/-- A loop with a ghost that goes down. -/
theorem wp_loop_ghost {P : Program} {Q : Exit → Act → World → Prop} {G : Type} {c : Code} (I : G → Act → World → Prop) (μ : G → Nat) (g0 : G) {a : Act} {w : World} (h₀ : I g0 a w)
    (round : ∀ g a w, I g a w → c.wp P (Exit.then (fun a' w' => ∃ g', I g' a' w' ∧ μ g' < μ g) Q) a w) : (Code.loop c).wp P Q a w := by
  intro b k cs
  have key : ∀ n g a w, μ g = n → I g a w →
      ∃ e a' w', Q e a' w' ∧ Arrives P (lone (b.at a (.code c :: .inLoop c :: k)) cs w) b k cs e a' w' := by
    intro n
    induction n using Nat.strongRecOn with
    | _ n ih =>
      intro g a w hn hI
      obtain ⟨e, a₁, w₁, hq, harr⟩ := round g a w hI b (.inLoop c :: k) cs
      cases e with
      | normal =>
        obtain ⟨g₁, hI₁, hlt⟩ := hq
        obtain ⟨e₂, a₂, w₂, hq₂, harr₂⟩ := ih (μ g₁) (hn ▸ hlt) g₁ a₁ w₁ rfl hI₁
        exact ⟨e₂, a₂, w₂, hq₂, .of_steps (Steps.trans harr (.one step_inLoop)) harr₂⟩
      | exit id => exact ⟨_, a₁, w₁, hq, .pass (x := .inLoop c) rfl (fun _ _ => .inl (by simp)) harr⟩
      | goto l => exact ⟨_, a₁, w₁, hq, .pass (x := .inLoop c) rfl (fun _ _ => .inl (by simp)) harr⟩
      | ret => exact ⟨_, a₁, w₁, hq, .pass (x := .inLoop c) rfl (fun _ _ => .inl (by simp)) harr⟩
      | panic ch => exact ⟨_, a₁, w₁, hq, .pass (x := .inLoop c) rfl (fun _ _ => .inl (by simp)) harr⟩
      | outgrown => exact ⟨_, a₁, w₁, hq, .pass (x := .inLoop c) rfl (fun _ _ => .inl (by simp)) harr⟩
  obtain ⟨e, a', w', hq, harr⟩ := key _ g0 a w rfl h₀
  exact ⟨e, a', w', hq, .of_steps (.one step_loop) harr⟩

/-- From this state the code ends as Q says. -/
def W (P : Program) (ac : ACode) (Q : Exit → AS → Prop) (s : AS) : Prop :=
  ∀ c, compC P c = some ac → ∀ I0 w0 a w, Good I0 w0 s a w → c.wp P (fun e a' w' => ∃ s', Q e s' ∧ Good I0 w0 s' a' w') a w

def thenQ (N : AS → Prop) (Q : Exit → AS → Prop) : Exit → AS → Prop
  | .normal, s => N s
  | e, s => Q e s

def blockQ (id : Nat) (Q : Exit → AS → Prop) : Exit → AS → Prop
  | .exit id', s => if id' = id then Q .normal s else Q (.exit id') s
  | e, s => Q e s

section
variable {P : Program} {Q Q' : Exit → AS → Prop} {s : AS}

theorem W_mono {ac : ACode} (h : W P ac Q s) (hq : ∀ e s, Q e s → Q' e s) : W P ac Q' s := fun c hc I0 w0 a w hg =>
  wp_mono (h c hc I0 w0 a w hg) fun e _ _ ⟨s', h1, h2⟩ => ⟨s', hq e s' h1, h2⟩

theorem W_weak {ac : ACode} {s' : AS} (hw : ∀ I0 w0 a w, Good I0 w0 s a w → Good I0 w0 s' a w) (h : W P ac Q s') : W P ac Q s := fun c hc I0 w0 a w hg => h c hc I0 w0 a w (hw I0 w0 a w hg)

theorem compC_skip {c : Code} (h : compC P c = some .skip) : c = .skip := by
  cases c <;> simp only [compC, Option.map_eq_some_iff, reduceCtorEq, and_false, exists_false, Option.some.injEq] at h
  · rfl
  · split at h <;> cases h
  · split at h <;> cases h

theorem W_skip (h : Q .normal s) : W P .skip Q s := fun c hc I0 w0 a w hg => by
  rw [compC_skip hc]
  exact wp_skip ⟨s, h, hg⟩

theorem W_exit {id : Nat} (h : Q (.exit id) s) : W P (.exit id) Q s := fun c hc I0 w0 a w hg => by
  cases c <;> simp only [compC, Option.map_eq_some_iff, reduceCtorEq, and_false, exists_false, Option.some.injEq, ACode.exit.injEq] at hc
  · split at hc <;> cases hc
  · split at hc <;> cases hc
  · subst hc; exact wp_exit ⟨s, h, hg⟩

theorem W_ret (h : Q .ret s) : W P .ret Q s := fun c hc I0 w0 a w hg => by
  cases c <;> simp only [compC, Option.map_eq_some_iff, reduceCtorEq, and_false, exists_false, Option.some.injEq] at hc
  · split at hc <;> cases hc
  · split at hc <;> cases hc
  · exact wp_ret ⟨s, h, hg⟩

theorem W_seq {x y : ACode} (h : W P x (thenQ (W P y Q) Q) s) : W P (.seq x y) Q s := fun c hc I0 w0 a w hg => by
  cases c <;> simp only [compC, Option.map_eq_some_iff, reduceCtorEq, and_false, exists_false, Option.some.injEq] at hc
  · rename_i c1 c2
    split at hc
    · rename_i x' y' h1 h2
      cases hc
      refine wp_seq (wp_mono (h c1 h1 I0 w0 a w hg) fun e a' w' ⟨s', hq, hg'⟩ => ?_)
      cases e with
      | normal => exact hq c2 h2 I0 w0 a' w' hg'
      | _ => exact ⟨s', hq, hg'⟩
    · cases hc
  · split at hc <;> cases hc

theorem W_cond {x : Opd} {y z : ACode} {t : Bool} (hx : s.ev x = .v (.bool t)) (h1 : t = true → W P y Q s) (h2 : t = false → W P z Q s) : W P (.cond x y z) Q s := fun c hc I0 w0 a w hg => by
  cases c <;> simp only [compC, Option.map_eq_some_iff, reduceCtorEq, and_false, exists_false, Option.some.injEq] at hc
  · split at hc <;> cases hc
  · rename_i c' y' z'
    split at hc
    · rename_i x1 y1 z1 hx1 hy1 hz1
      cases hc
      obtain ⟨m, I, hrel⟩ := hg
      have hr := rep_compX hrel hx1
      rw [hx] at hr
      exact wp_cond_split hr.v_inv (fun ht => h1 ht _ hy1 I0 w0 a w ⟨m, I, hrel⟩) (fun ht => h2 ht _ hz1 I0 w0 a w ⟨m, I, hrel⟩)
    · cases hc

theorem W_block {id : Nat} {x : ACode} (h : W P x (blockQ id Q) s) : W P (.block id x) Q s := fun c hc I0 w0 a w hg => by
  cases c <;> simp only [compC, Option.map_eq_some_iff, reduceCtorEq, and_false, exists_false, Option.some.injEq] at hc
  · split at hc <;> cases hc
  · split at hc <;> cases hc
  · rename_i id' c'
    obtain ⟨x', hx', he⟩ := hc
    cases he
    refine wp_block (wp_mono (h c' hx' I0 w0 a w hg) fun e a' w' ⟨s', hq, hg'⟩ => ?_)
    cases e with
    | exit k =>
      simp only [Exit.inBlock, blockQ] at hq ⊢
      split at hq
      · rename_i hk; rw [if_pos hk]; exact ⟨s', hq, hg'⟩
      · rename_i hk; rw [if_neg hk]; exact ⟨s', hq, hg'⟩
    | _ => exact ⟨s', hq, hg'⟩

theorem W_loop {x : ACode} {G : Type} (I : G → AS → Prop) (μ : G → Nat) (g : G) (h0 : I g s) (h : ∀ g s, I g s → W P x (thenQ (fun s' => ∃ g', I g' s' ∧ μ g' < μ g) Q) s) : W P (.loop x) Q s := fun c hc I0 w0 a w hg => by
  cases c <;> simp only [compC, Option.map_eq_some_iff, reduceCtorEq, and_false, exists_false, Option.some.injEq] at hc
  · split at hc <;> cases hc
  · split at hc <;> cases hc
  · rename_i c'
    obtain ⟨x', hx', he⟩ := hc
    cases he
    refine wp_loop_ghost (fun g a w => ∃ s, I g s ∧ Good I0 w0 s a w) μ g ⟨s, h0, hg⟩ fun g a w ⟨s, hI, hg⟩ => ?_
    refine wp_mono (h g s hI c' hx' I0 w0 a w hg) fun e a' w' ⟨s', hq, hg'⟩ => ?_
    cases e with
    | normal => obtain ⟨g', h1, h2⟩ := hq; exact ⟨g', ⟨s', h1, hg'⟩, h2⟩
    | _ => exact ⟨s', hq, hg'⟩

theorem W_reg {ops : List AOper} {s' : AS} (h : opsR P ops s s') (hq : Q .normal s') : W P (.reg false ops) Q s := fun c hc I0 w0 a w hg => by
  cases c <;> simp only [compC, Option.map_eq_some_iff, reduceCtorEq, and_false, exists_false, Option.some.injEq, ACode.reg.injEq] at hc
  · rename_i id ops' draw
    obtain ⟨as, has, hd, rfl⟩ := hc
    subst hd
    exact wp_region_text has hg h fun a' w' hg' => ⟨s', hq, hg'⟩
  · split at hc <;> cases hc
  · split at hc <;> cases hc

theorem W_draw {ops : List AOper} {s' : AS} (hm : P.follows .mixedOrders = true) (hd : drawOk ops = true) (h : opsR P ops s s') (hq : Q .normal s') : W P (.reg true ops) Q s := fun c hc I0 w0 a w hg => by
  cases c <;> simp only [compC, Option.map_eq_some_iff, reduceCtorEq, and_false, exists_false, Option.some.injEq, ACode.reg.injEq] at hc
  · rename_i id ops' draw
    obtain ⟨as, has, hd', rfl⟩ := hc
    subst hd'
    exact wp_region_drawn has hm hd hg h fun a' w' hg' => ⟨s', hq, hg'⟩
  · split at hc <;> cases hc
  · split at hc <;> cases hc

end

/-! ### Results -/

inductive RV where
  | tmp (t : Nat)
  | cell (t : Nat) (agg : Bool) (sz : Nat)

def compRV (P : Program) : ResultVar → Option RV
  | .tmp t => some (.tmp t)
  | .cell a ty => match P.underlying ty, P.info? ty with
    | some d, some i => some (.cell a (isAggD d) i.size)
    | _, _ => none

def compRVs (P : Program) : List ResultVar → Option (List RV)
  | [] => some []
  | x :: r => match compRV P x, compRVs P r with
    | some y, some ys => some (y :: ys)
    | _, _ => none

def rvA (s : AS) : RV → Option AV
  | .tmp t => some (s.fr.getD t (.v undef))
  | .cell t agg sz => match s.fr.getD t (.v undef) with
    | .ptr id off => match s.st[id]? with
      | some (.blk _ cs) => getCells agg sz cs off
      | _ => none
    | _ => none

def rvsA (s : AS) : List RV → Option (List AV)
  | [] => some []
  | x :: r => match rvA s x, rvsA s r with
    | some y, some ys => some (y :: ys)
    | _, _ => none

/-- What is returned. -/
def RetV (s : AS) (v : AV) (r : Res) : Prop :=
  (∃ y, reify s.st v = some y ∧ r = .pure y) ∨ (∃ id t sz es rest, v = .own id 0 es.length ∧ s.st[id]? = some (.row true t sz (es ++ rest)) ∧ r = .fresh t sz es) ∨ ∃ t sz, v = .nils ∧ r = .fresh t sz []

def RetOk (rs : List RV) (s : AS) (r : Res) : Prop :=
  match rs with
  | [x] => ∃ v, rvA s x = some v ∧ RetV s v r
  | rs => ∃ vs ys, rvsA s rs = some vs ∧ reifyAll s.st vs = some ys ∧ r = .pure (.tup ys)

def retQ (rs : List RV) (r : Res) : Exit → AS → Prop
  | .normal, s | .ret, s => RetOk rs s r
  | _, _ => False

section
variable {P : Program} {I0 : Nat → Prop} {w0 : World} {m : LMap} {I : Nat → Prop} {s : AS} {a : Act} {w : World}

def rvSem (tmps : Array Value) : ResultVar → Sem Value
  | .tmp t => pure (tmps.getD t undef)
  | .cell b t => do loadVar t (← asAddr (tmps.getD b undef))

theorem results_eq (fn : Func) (tmps : Array Value) : results fn tmps = (do
    let vs ← fn.results.mapM (rvSem tmps)
    pure (if h : vs.size = 1 then vs[0] else .tuple vs)) := by
  unfold results
  congr

theorem rv_run (h : Rel I0 w0 m I s a w) {x : ResultVar} {y : RV} {v : AV} (hx : compRV P x = some y) (hv : rvA s y = some v) :
    ∃ u, (rvSem a.tmps x).run P w = .ok u w ∧ Rep m s.st.length I w v u := by
  cases x with
  | tmp t =>
    simp only [compRV, Option.some.injEq] at hx
    subst hx
    simp only [rvA, Option.some.injEq] at hv
    subst hv
    exact ⟨_, rfl, h.eval t⟩
  | cell b ty =>
    simp only [compRV] at hx
    split at hx
    · rename_i d i hd hi
      cases hx
      simp only [rvA] at hv
      have hr := h.eval b
      split at hv
      · rename_i id off he
        rw [he] at hr
        split at hv
        · rename_i t cs hst
          obtain ⟨_, _, _, us, hheap, hlen, hrep⟩ := h.obj id _ hst
          have hp : a.tmps.getD b undef = .pointer (some ⟨(m id).b, off, none⟩) := by
            cases hq : a.tmps.getD b undef <;> rw [hq] at hr <;> cases hr
            rfl
          obtain ⟨u, hl, hu⟩ := load_core (P := P) (m := m) (n := s.st.length) (I := I) (w := w) hd hi (b := (m id).b) (base := 0) (e := cs) (off := off) (fun k c hk => by
            have hlt : k < us.size := by have := (List.getElem?_eq_some_iff.1 hk).1; omega
            refine ⟨us[k], ?_, hrep k c us[k] hk (Array.getElem?_eq_getElem hlt)⟩
            rw [Nat.zero_add, cell_of_row w _ _ us t (0, 0) hheap]
            exact Array.getElem?_eq_getElem hlt) hv
          rw [Nat.zero_add] at hl
          refine ⟨u, ?_, hu⟩
          simp only [rvSem, hp]
          simp [asAddr, hl]
        · cases hv
      · cases hv
    · cases hx

theorem rvs_run (h : Rel I0 w0 m I s a w) : ∀ {l : List ResultVar} {ys : List RV} {vs : List AV}, compRVs P l = some ys → rvsA s ys = some vs →
    ∃ us : List Value, (l.mapM (rvSem a.tmps)).run P w = .ok us w ∧ us.length = vs.length ∧ l.length = vs.length ∧ ∀ (i : Nat) (x : AV) (u : Value), vs[i]? = some x → us[i]? = some u → Rep m s.st.length I w x u
  | [], ys, vs, h1, h2 => by
    simp [compRVs] at h1
    subst h1
    simp [rvsA] at h2
    subst h2
    exact ⟨[], by simp, rfl, rfl, fun i x u hx => by simp at hx⟩
  | x :: r, ys, vs, h1, h2 => by
    simp only [compRVs] at h1
    split at h1
    · rename_i y ys' hy hys
      cases h1
      simp only [rvsA] at h2
      split at h2
      · rename_i v vs' hv hvs
        cases h2
        obtain ⟨u, hu, hr⟩ := rv_run h hy hv
        obtain ⟨us, hus, hl, hl', hrs⟩ := rvs_run h hys hvs
        refine ⟨u :: us, ?_, by simp [hl], by simp [hl'], fun i x' u' hx' hu' => ?_⟩
        · rw [List.mapM_cons, Sem.run_bind, hu, Result.andThen_ok, Sem.run_bind, hus]
          rfl
        · cases i with
          | zero => simp at hx' hu'; subst hx' hu'; exact hr
          | succ i => exact hrs i x' u' (by simpa using hx') (by simpa using hu')
      · cases h2
    · cases h1

theorem I_out (h : Rel I0 w0 m I s a w) {ids : List Nat} {b : Nat} (hb : I b ∨ rowsOf m s.st ids b) : I0 b ∨ newB w0 w b := by
  rcases hb with hb | ⟨id, _, f, t, sz, es, hst, hn, rfl⟩
  · rcases h.iz b hb with h1 | h1
    · exact .inl h1
    · exact .inr ⟨h1, h.imm b hb⟩
  · have hlt := Obj.ok_lt (h.obj id _ hst) (by simp) hn
    cases f with
    | true => exact .inr ⟨(Obj.ok_live (h.obj id _ hst) rfl hn).1, hlt⟩
    | false =>
      have hI : I (m id).b := Obj.ok_dead (h.obj id _ hst) (by simp) (by simp [AObj.live]) hn
      rcases h.iz _ hI with h1 | h1
      · exact .inl h1
      · exact .inr ⟨h1, hlt⟩

theorem ret_ok (h : Rel I0 w0 m I s a w) {v : AV} {u : Value} {r : Res} (hr : Rep m s.st.length I w v u) (hv : RetV s v r) : ResOk I0 w0 w r u := by
  rcases hv with ⟨y, hy, rfl⟩ | ⟨id, t, sz, es, rest, rfl, hst, rfl⟩ | ⟨t, sz, rfl, rfl⟩
  · obtain ⟨h1, h2⟩ := rep_reify h hr hy (I1 := fun b => I b ∨ rowsOf m s.st v.ids b) (fun _ hb => .inl hb) (fun _ hb => .inr hb)
    refine ⟨h2, ?_⟩
    exact (h1.mono (m' := m) (Nat.le_refl _) (fun _ _ => rfl) (fun b hb => I_out h hb) (fun _ _ => rfl)).of_pure h2
  · cases hr with
    | own _ _ _ hid hl hn =>
      rcases h.obj id _ hst with ⟨hnil, _, hes⟩ | ⟨hnil, _, hmsz, hpos, hcap, hmax, hok, us, hheap, hlen, hrep⟩
      · rw [Loc.sl_nil hnil]
        exact .inl ⟨rfl, (List.append_eq_nil_iff.1 hes).1⟩
      · obtain ⟨hlo, hnI⟩ := Obj.ok_live (h.obj id _ hst) rfl hnil
        have hlt := Obj.ok_lt (h.obj id _ hst) (by simp) hnil
        rw [Loc.sl_not hnil]
        have hcap' : es.length ≤ (m id).cap := by simp at hcap; omega
        have hget : ∀ (i : Nat) (e : List AV), es[i]? = some e → (es ++ rest)[i]? = some e := fun i e h1 => by rw [List.getElem?_append_left (List.getElem?_eq_some_iff.1 h1).1]; exact h1
        refine .inr ⟨(m id).b, (m id).cap, us, by simp, ⟨hlo, hlt⟩, hpos, hcap', hmax, fun e he => hok e (List.mem_append.2 (.inl he)), hheap, hlen, fun i e j x u h1 h2 h3 => ?_⟩
        have h1 := hget i e h1
        have hp := ((hok e (List.mem_of_getElem? h1)).2 x (List.mem_of_getElem? h2)).2
        exact ((hrep i e j x u h1 h2 h3).mono (m' := m) (Nat.le_refl _) (fun _ _ => rfl) (fun b hb => ⟨I_out (ids := []) h (.inl hb), fun e => hnI (e ▸ hb)⟩) (fun _ _ => rfl)).of_pure hp
  · cases hr
    exact .inl ⟨rfl, rfl⟩

end

/-- The contract of a function, out of its body. -/
theorem contract_of {P : Program} {f : FuncId} {fn : Func} {c : Code} {ac : ACode} {rs : List RV} {args : List AV} {r : Res} (hf : P.funcs[f]? = some fn) (hb : fn.body = some c) (hc : compC P c = some ac) (hr : compRVs P fn.results.toList = some rs)
    (h : W P ac (retQ rs r) ⟨args ++ List.replicate (fn.ntmps - args.length) (.v undef), []⟩) : Contract P f args r := by
  intro w I vals hI hl hv
  refine calls_of_wp hf hb ?_
  have hg : Good I w ⟨args ++ List.replicate (fn.ntmps - args.length) (.v undef), []⟩ { tmps := vals ++ Array.replicate (fn.ntmps - vals.size) undef, defers := [] } w := by
    refine ⟨m0, I, by simp [hl], fun i x u hx hu => ?_, rfl, Below.refl _ _, hI, fun b hb => .inl hb, fun id o ho => by simp at ho, fun id id' o o' ho => by simp at ho⟩
    simp only at hx hu
    rcases Nat.lt_or_ge i args.length with hlt | hge
    · rw [List.getElem?_append_left hlt] at hx
      rw [Array.getElem?_append_left (by omega)] at hu
      exact hv i x u hx hu
    · rw [List.getElem?_append_right hge] at hx
      rw [Array.getElem?_append_right (by omega)] at hu
      have e1 : x = .v undef := List.eq_of_mem_replicate (List.mem_of_getElem? hx)
      have e2 : u = undef := by
        rw [Array.getElem?_replicate] at hu
        split at hu
        · cases hu; rfl
        · cases hu
      subst e1 e2
      exact .v _
  refine wp_mono (h c hc I w _ w hg) fun e a' w' ⟨s', hq, hg'⟩ => ?_
  obtain ⟨m', I', hrel⟩ := hg'
  have fin : RetOk rs s' r → a'.defers = [] ∧ ∃ v, (results fn a'.tmps).run P w' = .ok v w' ∧ ∃ v', Ending.returned v = .returned v' ∧ Below w.heap.size w w' ∧ ResOk I w w' r v' := fun hret => by
    refine ⟨hrel.df, ?_⟩
    have hres := results_eq fn a'.tmps
    have single : ∀ (x : RV) (v : AV), rs = [x] → rvA s' x = some v → RetV s' v r → ∃ v, (results fn a'.tmps).run P w' = .ok v w' ∧ ∃ v', Ending.returned v = .returned v' ∧ Below w.heap.size w w' ∧ ResOk I w w' r v' := fun x v hx hv hrv => by
      subst hx
      obtain ⟨us, hus, hl1, hl2, hrr⟩ := rvs_run (vs := [v]) hrel hr (by simp [rvsA, hv])
      match us, hl1 with
      | [u], _ =>
        refine ⟨u, ?_, u, rfl, hrel.bel, ret_ok hrel (hrr 0 v u rfl rfl) hrv⟩
        rw [hres, Array.mapM_eq_mapM_toList]
        simp only [Sem.run_bind, Sem.run_map, hus, Result.andThen_ok]
        simp
    unfold RetOk at hret
    split at hret
    · obtain ⟨v, hv, hrv⟩ := hret
      exact single _ v rfl hv hrv
    · rename_i hne
      obtain ⟨vs, ys, hvs, hys, rfl⟩ := hret
      obtain ⟨us, hus, hl1, hl2, hrr⟩ := rvs_run hrel hr hvs
      have hne1 : us.length ≠ 1 := fun e => by
        have hvl : vs.length = 1 := by omega
        match rs, hne with
        | [], _ => simp [rvsA] at hvs; subst hvs; simp at hvl
        | [x], hne => exact hne x rfl
        | x :: y :: q, _ =>
          simp only [rvsA] at hvs
          split at hvs
          · rename_i h1 h2
            cases hvs
            split at h2
            · cases h2; simp at hvl
            · cases h2
          · cases hvs
      obtain ⟨g1, g2⟩ := rep_reifyAll hrel (I1 := fun b => I b ∨ newB w w' b) (fun b hb => I_out (ids := []) hrel (.inl hb)) hys (fun b hb => I_out hrel (.inr hb))
      have hpure : ∀ y ∈ ys, Pure y := fun y hy => by
        have : ∀ {xs ys : List AV}, (∀ (i : Nat) (x : AV), xs[i]? = some x → ∃ u, Rep m' s'.st.length I' w' x u) → reifyAll s'.st xs = some ys → ∀ y ∈ ys, Pure y := by
          intro xs
          induction xs with
          | nil => intro ys _ h; simp [reifyAll] at h; subst h; simp
          | cons x xs ih =>
            intro ys hx h
            simp only [reifyAll] at h
            split at h
            · rename_i y1 ys1 h1 h2
              cases h
              intro y hy
              rcases List.mem_cons.1 hy with rfl | hy
              · obtain ⟨u, hu⟩ := hx 0 x rfl
                exact (rep_reify hrel hu h1 (I1 := fun b => I' b ∨ rowsOf m' s'.st x.ids b) (fun _ hb => .inl hb) (fun _ hb => .inr hb)).2
              · exact ih (fun i x' hx' => hx (i + 1) x' (by simpa using hx')) h2 y hy
            · cases h
        exact this (fun i x hx => by
          have hi : i < us.length := by have := (List.getElem?_eq_some_iff.1 hx).1; omega
          exact ⟨us[i], hrr i x us[i] hx (List.getElem?_eq_getElem hi)⟩) hys y hy
      refine ⟨.tuple us.toArray, ?_, .tuple us.toArray, rfl, hrel.bel, .tup ys hpure, .tup ys us.toArray (by simp; omega) fun i y u hy hu => ?_⟩
      · rw [hres, Array.mapM_eq_mapM_toList]
        simp only [Sem.run_bind, Sem.run_map, hus, Result.andThen_ok]
        simp [hne1]
      · have hi : i < vs.length := by have := (List.getElem?_eq_some_iff.1 hy).1; omega
        have hu' : us[i]? = some u := by simpa using hu
        exact g2 i vs[i] y u (List.getElem?_eq_getElem hi) hy (hrr i vs[i] u (List.getElem?_eq_getElem hi) hu')
  cases e with
  | normal => obtain ⟨h1, v, h2, v', h3, h4⟩ := fin hq; exact ⟨h1, v, h2, v', h3, h4⟩
  | ret => obtain ⟨h1, v, h2, v', h3, h4⟩ := fin hq; exact ⟨h1, v, h2, v', h3, h4⟩
  | _ => exact hq.elim

end Go.Am
