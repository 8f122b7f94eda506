/- The abstract machine: contracts of functions, and calls. -/
import Derived.Test.YthbkdnojneffdaaAmOne
namespace Go.Am
open Go.RowKit

def m0 : LMap := fun _ => ⟨0, 0, 0, false⟩

/-- What a function returns: a value without ids, or a slice in new memory that is the caller's own. -/
inductive Res where
  | pure (x : AV)
  | fresh (t : TypeId) (sz : Nat) (es : List (List AV))

def newB (w w' : World) (b : Nat) : Prop := w.heap.size ≤ b ∧ b < w'.heap.size

def ResOk (I : Nat → Prop) (w w' : World) : Res → Value → Prop
  | .pure x, v => Pure x ∧ Rep m0 0 (fun b => I b ∨ newB w w' b) w' x v
  | .fresh t sz es, v => (v = .slice none 0 0 ∧ es = []) ∨ ∃ (g cap : Nat) (us : Array Value), v = .slice (some ⟨g, 0, none⟩) es.length cap ∧ newB w w' g ∧ 0 < sz ∧ es.length ≤ cap ∧ cap ≤ maxLen ∧ (∀ e ∈ es, EOk sz e) ∧
      w'.heap[g]? = some (.cells us t (0, 0)) ∧ us.size = cap * sz ∧ RowRep m0 0 (fun b => (I b ∨ newB w w' b) ∧ b ≠ g) w' sz es us

/-- The contract of a function at some arguments: it returns, in any world in which values stand for the arguments; it changes nothing that was there. -/
def Contract (P : Program) (f : FuncId) (args : List AV) (r : Res) : Prop :=
  ∀ (w : World) (I : Nat → Prop) (vals : Array Value), (∀ b, I b → b < w.heap.size) → vals.size = args.length → (∀ (i : Nat) (x : AV) (u : Value), args[i]? = some x → vals[i]? = some u → Rep m0 0 I w x u) →
    Calls P f vals w fun e w' => ∃ v, e = .returned v ∧ Below w.heap.size w w' ∧ ResOk I w w' r v

/-- No slices and no pointers. -/
inductive Flat : AV → Prop
  | v (x : Value) : Flat (.v x)
  | agg (cs : List AV) (h : ∀ c ∈ cs, Flat c) : Flat (.agg cs)
  | tup (cs : List AV) (h : ∀ c ∈ cs, Flat c) : Flat (.tup cs)

theorem Rep.of_flat {m m' : LMap} {n n' : Nat} {I I' : Nat → Prop} {w w' : World} {x : AV} {u : Value} (h : Rep m n I w x u) (hf : Flat x) : Rep m' n' I' w' x u := by
  induction h with
  | v x => exact .v x
  | agg cs us hl _ ih => cases hf with | agg _ hf => exact .agg cs us hl (fun i c u h1 h2 => ih i c u h1 h2 (hf c (List.mem_of_getElem? h1)))
  | tup cs us hl _ ih => cases hf with | tup _ hf => exact .tup cs us hl (fun i c u h1 h2 => ih i c u h1 h2 (hf c (List.mem_of_getElem? h1)))
  | _ => cases hf

theorem Flat.pure {x : AV} (h : Flat x) : Pure x := by
  induction h with
  | v x => exact .v x
  | agg cs _ ih => exact .agg cs ih
  | tup cs _ ih => exact .tup cs ih

def reifyAll (st : Store) : List AV → Option (List AV)
  | [] => some []
  | x :: r => match reify st x, reifyAll st r with
    | some y, some ys => some (y :: ys)
    | _, _ => none

/-- A call, as it changes the state. -/
inductive CallR (P : Program) (f : FuncId) (xs : List AV) (st : Store) : AV → Store → Prop
  | lend (args : List AV) (x : AV) (ha : reifyAll st xs = some args) (hc : Contract P f args (.pure x)) (hf : Flat x) : CallR P f xs st x st
  | pure (args : List AV) (x : AV) (ha : reifyAll st xs = some args) (hc : Contract P f args (.pure x)) : CallR P f xs st x (freeze (xs.flatMap AV.ids) st)
  | lendF (args : List AV) (t : TypeId) (sz : Nat) (es : List (List AV)) (ha : reifyAll st xs = some args) (hc : Contract P f args (.fresh t sz es)) (hf : ∀ e ∈ es, ∀ c ∈ e, Flat c) : CallR P f xs st (.own st.length 0 es.length) (st ++ [.row true t sz es])
  | fresh (args : List AV) (t : TypeId) (sz : Nat) (es : List (List AV)) (ha : reifyAll st xs = some args) (hc : Contract P f args (.fresh t sz es)) : CallR P f xs st (.own st.length 0 es.length) (freeze (xs.flatMap AV.ids) st ++ [.row true t sz es])

section
variable {P : Program} {I0 : Nat → Prop} {w0 : World} {m : LMap} {I : Nat → Prop} {s : AS} {a : Act} {w : World}

theorem rep_reifyAll (h : Rel I0 w0 m I s a w) {I1 : Nat → Prop} (hI : ∀ b, I b → I1 b) : ∀ {xs ys : List AV}, reifyAll s.st xs = some ys → (∀ b, rowsOf m s.st (xs.flatMap AV.ids) b → I1 b) →
    ys.length = xs.length ∧ ∀ (i : Nat) (x y : AV) (u : Value), xs[i]? = some x → ys[i]? = some y → Rep m s.st.length I w x u → Rep m0 0 I1 w y u
  | [], ys, hd, _ => by simp [reifyAll] at hd; subst hd; exact ⟨rfl, fun i c d u hc => by simp at hc⟩
  | c :: r, ys, hd, hI1 => by
    simp only [reifyAll] at hd
    split at hd
    · rename_i x xs hx hxs
      cases hd
      obtain ⟨h1, h3⟩ := rep_reifyAll h hI hxs (fun b ⟨id, hid, rest⟩ => hI1 b ⟨id, by simp only [List.flatMap_cons, List.mem_append]; exact .inr hid, rest⟩)
      have hc1 : ∀ b, rowsOf m s.st c.ids b → I1 b := fun b ⟨id, hid, rest⟩ => hI1 b ⟨id, by simp only [List.flatMap_cons, List.mem_append]; exact .inl hid, rest⟩
      refine ⟨by simp [h1], fun i c' d u hc hd hr => ?_⟩
      cases i with
      | zero =>
        simp at hc hd
        subst hc hd
        obtain ⟨h4, h5⟩ := rep_reify h hr hx hI hc1
        exact h4.of_pure h5
      | succ i => exact h3 i c' d u (by simpa using hc) (by simpa using hd) hr
    · cases hd

theorem compXs_rep (h : Rel I0 w0 m I s a w) : ∀ {l : List Operand} {ys : List Opd}, compXs l = some ys → ys.length = l.length ∧ ∀ (i : Nat) (x : Operand) (y : Opd), l[i]? = some x → ys[i]? = some y → Rep m s.st.length I w (s.ev y) (a.eval x)
  | [], ys, h1 => by simp [compXs] at h1; subst h1; exact ⟨rfl, fun i x y hx => by simp at hx⟩
  | x :: r, ys, h1 => by
    simp only [compXs] at h1
    split at h1
    · rename_i y ys' hy hys
      cases h1
      obtain ⟨h2, h3⟩ := compXs_rep h hys
      refine ⟨by simp [h2], fun i x' y' hx' hy' => ?_⟩
      cases i with
      | zero => simp at hx' hy'; subst hx' hy'; exact rep_compX h hy
      | succ i => exact h3 i x' y' (by simpa using hx') (by simpa using hy')
    · cases h1

/-- What follows a call: the world has grown, the result stands for what the contract says. -/
theorem after_call (h : Rel I0 w0 m I s a w) {f : FuncId} {xs : List AV} {x : AV} {st' : Store} (hr : CallR P f xs s.st x st') {vals : Array Value} (hv : vals.size = xs.length)
    (hvr : ∀ (i : Nat) (y : AV) (u : Value), xs[i]? = some y → vals[i]? = some u → Rep m s.st.length I w y u) :
    Calls P f vals w fun e w' => ∃ v m' I', e = .returned v ∧ Rel I0 w0 m' I' { s with st := st' } a w' ∧ Rep m' st'.length I' w' x v := by
  let I1 : Nat → Prop := fun b => I b ∨ rowsOf m s.st (xs.flatMap AV.ids) b
  have hI1 : ∀ b, I1 b → b < w.heap.size := fun b hb => by
    rcases hb with hb | ⟨id, _, f, t, sz, es, hst, hn, rfl⟩
    · exact h.imm b hb
    · exact Obj.ok_lt (h.obj id _ hst) (by simp) hn
  have hargs : ∀ {args : List AV}, reifyAll s.st xs = some args → vals.size = args.length ∧ ∀ (i : Nat) (y : AV) (u : Value), args[i]? = some y → vals[i]? = some u → Rep m0 0 I1 w y u := fun {args} ha => by
    obtain ⟨h1, h2⟩ := rep_reifyAll h (I1 := I1) (fun _ hb => .inl hb) ha (fun _ hb => .inr hb)
    refine ⟨by omega, fun i y u hy hu => ?_⟩
    have hi : i < xs.length := by have := (List.getElem?_eq_some_iff.1 hy).1; omega
    exact h2 i xs[i] y u (List.getElem?_eq_getElem hi) hy (hvr i xs[i] u (List.getElem?_eq_getElem hi) hu)
  have growI : ∀ {J : Nat → Prop} {w' : World}, (∀ b, J b → J b ∨ newB w w' b) := fun b hb => .inl hb
  have hfz := h.freeze (xs.flatMap AV.ids)
  have hfl : (freeze (xs.flatMap AV.ids) s.st).length = s.st.length := by simp [freeze]
  cases hr with
  | lend args x ha hc hf =>
    obtain ⟨g1, g2⟩ := hargs ha
    refine (hc w I1 vals hI1 g1 g2).mono ?_
    rintro e w' ⟨v, rfl, hb, _, hrep⟩
    exact ⟨v, m, fun b => I b ∨ newB w w' b, rfl, h.grow hb growI (fun _ hb => hb), hrep.of_flat hf⟩
  | pure args x ha hc =>
    obtain ⟨g1, g2⟩ := hargs ha
    refine (hc w I1 vals hI1 g1 g2).mono ?_
    rintro e w' ⟨v, rfl, hb, hp, hrep⟩
    exact ⟨v, m, fun b => I1 b ∨ newB w w' b, rfl, hfz.grow hb growI (fun _ hb => hb), hrep.of_pure hp⟩
  | lendF args t sz es ha hc hf =>
    obtain ⟨g1, g2⟩ := hargs ha
    refine (hc w I1 vals hI1 g1 g2).mono ?_
    rintro e w' ⟨v, rfl, hb, ⟨hv, rfl⟩ | ⟨g, cap, us, hv, hg, hpos, hcap, hmax, hok, hheap, hsz, hrow⟩⟩
    · have hrel := h.more (w' := w') (I' := I) ⟨0, 0, sz, true⟩ (.row true t sz []) hb (fun _ hb' => hb') (fun _ hb' => .inl hb') (fun _ hh => by cases hh) (by
        unfold Obj.ok
        rw [updM_eq]
        exact .inl ⟨rfl, rfl, rfl⟩)
      refine ⟨v, _, _, rfl, hrel, ?_⟩
      have := Rep.own (m := updM m s.st.length ⟨0, 0, sz, true⟩) (n := (s.st ++ [AObj.row true t sz []]).length) (I := I) (w := w') s.st.length 0 0 (by simp) (by rw [updM_eq]; simp) (by rw [updM_eq]; simp)
      rw [updM_eq, Loc.sl_nil rfl] at this
      rw [hv]
      exact this
    have hrel := h.more (w' := w') (I' := fun b => (I b ∨ newB w w' b) ∧ b ≠ g) ⟨g, cap, sz, false⟩ (.row true t sz es) hb (fun b hb' => ⟨.inl hb', fun e => by have := h.imm b hb'; have := hg.1; omega⟩) (fun b hb' => hb'.1) (fun _ _ => hg.1) (by
      unfold Obj.ok
      rw [updM_eq]
      exact .inr ⟨rfl, by rw [if_pos rfl]; exact ⟨Nat.le_trans h.bel.size hg.1, fun hh => hh.2 rfl⟩, rfl, hpos, hcap, hmax, hok, us, hheap, hsz, fun i e j x u h1 h2 h3 => (hrow i e j x u h1 h2 h3).of_flat (hf e (List.mem_of_getElem? h1) x (List.mem_of_getElem? h2))⟩)
    refine ⟨v, _, _, rfl, hrel, ?_⟩
    have := Rep.own (m := updM m s.st.length ⟨g, cap, sz, false⟩) (n := (s.st ++ [AObj.row true t sz es]).length) (I := fun b => (I b ∨ newB w w' b) ∧ b ≠ g) (w := w') s.st.length 0 es.length (by simp) (by rw [updM_eq]; simpa using hcap) (by rw [updM_eq]; simp)
    rw [updM_eq, Loc.sl_not rfl] at this
    rw [hv]
    simpa using this
  | fresh args t sz es ha hc =>
    obtain ⟨g1, g2⟩ := hargs ha
    refine (hc w I1 vals hI1 g1 g2).mono ?_
    rintro e w' ⟨v, rfl, hb, ⟨hv, rfl⟩ | ⟨g, cap, us, hv, hg, hpos, hcap, hmax, hok, hheap, hsz, hrow⟩⟩
    · have hrel := hfz.more (w' := w') (I' := I1) ⟨0, 0, sz, true⟩ (.row true t sz []) hb (fun _ hb' => hb') (fun _ hb' => .inl hb') (fun _ hh => by cases hh) (by
        unfold Obj.ok
        rw [updM_eq]
        exact .inl ⟨rfl, rfl, rfl⟩)
      simp only [hfl] at hrel
      refine ⟨v, _, _, rfl, hrel, ?_⟩
      have := Rep.own (m := updM m s.st.length ⟨0, 0, sz, true⟩) (n := (freeze (xs.flatMap AV.ids) s.st ++ [AObj.row true t sz []]).length) (I := I1) (w := w') s.st.length 0 0 (by simp [hfl]) (by rw [updM_eq]; simp) (by rw [updM_eq]; simp)
      rw [updM_eq, Loc.sl_nil rfl] at this
      rw [hv]
      exact this
    have hrel := hfz.more (w' := w') (I' := fun b => (I1 b ∨ newB w w' b) ∧ b ≠ g) ⟨g, cap, sz, false⟩ (.row true t sz es) hb (fun b hb' => ⟨.inl hb', fun e => by have := hI1 b hb'; have := hg.1; omega⟩) (fun b hb' => hb'.1) (fun _ _ => hg.1) (by
      unfold Obj.ok
      rw [updM_eq]
      exact .inr ⟨rfl, by rw [if_pos rfl]; exact ⟨Nat.le_trans h.bel.size hg.1, fun hh => hh.2 rfl⟩, rfl, hpos, hcap, hmax, hok, us, hheap, hsz, fun i e j x u h1 h2 h3 => (hrow i e j x u h1 h2 h3).of_pure ((hok e (List.mem_of_getElem? h1)).2 x (List.mem_of_getElem? h2)).2⟩)
    simp only [hfl] at hrel
    refine ⟨v, _, _, rfl, hrel, ?_⟩
    have := Rep.own (m := updM m s.st.length ⟨g, cap, sz, false⟩) (n := (freeze (xs.flatMap AV.ids) s.st ++ [AObj.row true t sz es]).length) (I := fun b => (I1 b ∨ newB w w' b) ∧ b ≠ g) (w := w') s.st.length 0 es.length (by simp [hfl]) (by rw [updM_eq]; simpa using hcap) (by rw [updM_eq]; simp)
    rw [updM_eq, Loc.sl_not rfl] at this
    rw [hv]
    simpa using this

/-- A call whose result has no pointers. -/
def CallV (P : Program) (f : FuncId) (xs : List AV) (st : Store) (x : AV) : Prop := ∃ args, reifyAll st xs = some args ∧ Contract P f args (.pure x) ∧ Flat x

/-- The meaning of an operation, calls too. -/
def opSem (P : Program) (o : AOp) (s : AS) (x : AV) (st' : Store) : Prop :=
  match o with
  | .call v f xs => CallR P f (xs.map s.ev) s.st x st' ∧ (v = true → st' = s.st ∧ CallV P f (xs.map s.ev) s.st x)
  | o => semF P o s.ev s.st = some (x, st')

/-- An operation that runs: what follows. -/
theorem wp_of_ok {o : Oper} {x : AV} {st' : Store} {K : Act → World → Prop} {Q : Exit → Act → World → Prop} (h : OpOk P I0 w0 o a w s x st')
    (hK : ∀ a' w', Good I0 w0 ({ s with st := st' } |>.put o.dst x) a' w' → K a' w') : o.wp P a w K Q := by
  obtain ⟨nx, u, w', m', I', hrun, hn, hrel, hrep⟩ := h
  unfold Oper.wp
  rw [hrun]
  rcases hn with rfl | ⟨rfl, rfl⟩
  · exact hK _ _ ⟨m', I', hrel.put o.dst hrep⟩
  · exact hK _ _ ⟨m', I', hrel.put o.dst hrep⟩

theorem wp_opSem (h : Good I0 w0 s a w) {o : Oper} {ao : AOp} {x : AV} {st' : Store} {K : Act → World → Prop} {Q : Exit → Act → World → Prop} (hc : compOp P o.op = some ao) (hs : opSem P ao s x st')
    (hK : ∀ a' w', Good I0 w0 ({ s with st := st' } |>.put o.dst x) a' w' → K a' w') : o.wp P a w K Q := by
  obtain ⟨m, I, h⟩ := h
  cases ao with
  | call v f xs =>
    simp only [opSem] at hs
    replace hs := hs.1
    -- a call of a function
    cases hop : o.op with
    | call c =>
      obtain ⟨callee, args, ts⟩ := c
      cases callee with
      | invoke r n => simp [hop, compOp] at hc
      | builtin b =>
        cases b <;> simp only [hop, compOp, reduceCtorEq] at hc
        · split at hc
          · split at hc
            · split at hc
              · split at hc
                · split at hc
                  · split at hc <;> cases hc
                  · cases hc
                · cases hc
              · cases hc
            · cases hc
          · cases hc
        · split at hc
          · split at hc <;> cases hc
          · cases hc
      | value g =>
        cases g <;> simp only [hop, compOp, reduceCtorEq] at hc
        rename_i g
        split at hc
        · rename_i fn ys hfn hys
          split at hc
          · rename_i hb
            cases hc
            simp only [Bool.and_eq_true, bne_iff_ne, ne_eq] at hb
            obtain ⟨hl, hrep⟩ := compXs_rep h hys
            have hrun : (execOp a.eval o).run P w = .ok (.enter f (args.map a.eval)) w := by
              have h2 : fn.body ≠ none := by
                intro e
                rw [e] at hb
                simp at hb
              simp [execOp, hop, resolve, Act.eval, Deferred.ofValue, invoke, callFunc, hfn, hb.2, h2]
            unfold Oper.wp
            rw [hrun]
            have := after_call h hs (vals := args.map a.eval) (by simp [hl]) (fun i y u hy hu => by
              simp only [List.getElem?_map, Option.map_eq_some_iff] at hy
              obtain ⟨y', hy', rfl⟩ := hy
              simp only [Array.getElem?_map, Option.map_eq_some_iff] at hu
              obtain ⟨x', hx', rfl⟩ := hu
              exact hrep i x' y' (by simpa using hx') hy')
            refine Calls.mono this ?_
            rintro e w' ⟨v, m', I', rfl, hrel, hrv⟩
            exact hK _ _ ⟨m', I', hrel.put o.dst hrv⟩
          · cases hc
        · cases hc
    | slice t y lo hi mx =>
      exfalso
      cases mx with
      | some q => simp [hop, compOp] at hc
      | none =>
        simp only [hop, compOp] at hc
        split at hc
        · split at hc
          · split at hc <;> cases hc
          · cases hc
        · cases hc
    | _ =>
      exfalso
      simp only [hop, compOp, Option.map_eq_some_iff, reduceCtorEq, and_false, exists_false] at hc
      repeat' (split at hc)
      all_goals first
        | (cases hc; done)
        | (simp at hc; done)
  | _ => exact wp_of_ok (sound_op h hc hs) hK

end
end Go.Am
