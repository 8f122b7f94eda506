/- The abstract machine: calls whose arguments or results are rows; rows that are written no more. -/
import Derived.Test.YthbkdnojneffdaaAmEq
namespace Go.Am
open Go.RowKit

theorem act_same {a : Act} {i : Nat} (h : i < a.tmps.size) : a.put (some i) a.tmps[i] = a := by
  have e : a.tmps.setIfInBounds i a.tmps[i] = a.tmps := by
    apply Array.ext_getElem?
    intro j
    rw [Array.getElem?_setIfInBounds]
    by_cases hj : i = j
    · subst hj; simp [h]
    · simp [hj]
  simp [Act.put, e]

theorem Good.frz {fr : List AV} {st : Store} {i : Nat} {x y : AV} (hi : fr[i]? = some x) (hy : reify st x = some y) {I0 : Nat → Prop} {w0 : World} {a : Act} {w : World} (hg : Good I0 w0 ⟨fr, st⟩ a w) : Good I0 w0 ⟨fr.set i y, freeze x.ids st⟩ a w := by
  obtain ⟨m, I, h⟩ := hg
  have hlt : i < fr.length := (List.getElem?_eq_some_iff.1 hi).1
  have hlt' : i < a.tmps.size := by rw [h.size]; exact hlt
  have hr := h.fr i x a.tmps[i] hi (Array.getElem?_eq_getElem hlt')
  obtain ⟨h1, h2⟩ := rep_reify h hr hy (I1 := fun b => I b ∨ rowsOf m st x.ids b) (fun b hb => .inl hb) (fun b hb => .inr hb)
  have hput := (h.freeze x.ids).put (some i) (x := y) (u := a.tmps[i]) (h1.of_pure h2)
  rw [act_same hlt'] at hput
  exact ⟨_, _, hput⟩

theorem Good.gone {fr : List AV} {st : Store} (id : Nat) {I0 : Nat → Prop} {w0 : World} {a : Act} {w : World} (hg : Good I0 w0 ⟨fr, st⟩ a w) : Good I0 w0 ⟨fr, st.set id .gone⟩ a w := by
  obtain ⟨m, I, h⟩ := hg
  have hlen : (st.set id .gone).length = st.length := by simp
  have hget : ∀ (k : Nat) (o : AObj), (st.set id .gone)[k]? = some o → o = .gone ∨ st[k]? = some o := fun k o hk => by
    rw [List.getElem?_set] at hk
    split at hk
    · split at hk
      · cases hk; exact .inl rfl
      · cases hk
    · exact .inr hk
  refine ⟨m, I, h.size, fun i x u hx hu => ?_, h.df, h.bel, h.imm, h.iz, fun k o ho => ?_, fun k k' o o' ho ho' hl hl' => ?_⟩
  · have := h.fr i x u hx hu
    rw [← hlen] at this
    exact this
  · rcases hget k o ho with rfl | ho
    · trivial
    · have := h.obj k o ho
      rw [← hlen] at this
      exact this
  · rcases hget k o ho with rfl | ho
    · cases hl
    · rcases hget k' o' ho' with rfl | ho'
      · cases hl'
      · exact h.inj k k' o o' ho ho' hl hl'

theorem freeze_gone (id : Nat) (st : Store) : (freeze [id] st).set id .gone = st.set id .gone := by
  apply List.ext_getElem?
  intro j
  simp only [freeze, List.getElem?_set, List.length_mapIdx, List.getElem?_mapIdx, List.mem_singleton]
  by_cases hj : id = j
  · simp [hj]
  · have hj' : ¬ j = id := fun e => hj e.symm
    simp [hj, hj']

section
variable {P : Program} {R : AS → Prop} {K : List Kf}

/-- A row that is written no more. -/
theorem G_frz {α : Type} {enc : α → List AV} {l : List α} {c : ACode} {fr fr1 : List AV} {st st1 : Store} (i : Nat) {id n : Nat} {f : Bool} {t : TypeId} {sz : Nat} (hi : fr[i]? = some (.own id 0 n)) (hst : st[id]? = some (.row f t sz (l.map enc))) (hn : n = l.length) (h1 : fr.set i (.vs (l.map enc)) = fr1) (h2 : st.set id .gone = st1)
    (h : G P R c K ⟨fr1, st1⟩) : G P R c K ⟨fr, st⟩ := by
  subst h1 h2 hn
  refine G_weak (fun _ _ _ _ hg => ?_) h
  have hy : reify st (.own id 0 l.length) = some (.vs (l.map enc)) := by
    have e : (List.map enc l).take l.length = l.map enc := List.take_of_length_le (by simp)
    simp [reify, reifyC, content, hst, e]
  have := (hg.frz hi hy).gone id
  rw [show (AV.own id 0 l.length).ids = [id] from rfl, freeze_gone] at this
  exact this

end

theorem reifyAll_nil {st : Store} : reifyAll st [] = some [] := rfl
theorem reifyAll_val {st : Store} {x y : AV} {r ys : List AV} (h : reify st x = some y) (hr : reifyAll st r = some ys) : reifyAll st (x :: r) = some (y :: ys) := by simp [reifyAll, h, hr]
theorem reifyAll_vs {st : Store} {es : List (List AV)} {r ys : List AV} (hr : reifyAll st r = some ys) : reifyAll st (.vs es :: r) = some (.vs es :: ys) := reifyAll_val rfl hr
theorem reifyAll_nils {α : Type} (enc : α → List AV) {st : Store} {r ys : List AV} (hr : reifyAll st r = some ys) : reifyAll st (.nils :: r) = some (.vs (([] : List α).map enc) :: ys) := reifyAll_val rfl hr
theorem reifyAll_own {α : Type} {enc : α → List AV} {l : List α} {st : Store} {id n : Nat} {f : Bool} {t : TypeId} {sz : Nat} {r ys : List AV} (hst : st[id]? = some (.row f t sz (l.map enc))) (hn : n = l.length) (hr : reifyAll st r = some ys) : reifyAll st (.own id 0 n :: r) = some (.vs (l.map enc) :: ys) := by
  refine reifyAll_val ?_ hr
  subst hn
  have e : (List.map enc l).take l.length = l.map enc := List.take_of_length_le (by simp)
  simp [reify, reifyC, content, hst, e]

section
variable {P : Program} {K : AS → Prop} {fr fr1 : List AV} {st st1 : Store} {d : Nat} {af : List Nat} {r : List AOper}

/-- A call that returns a new row. -/
theorem regW_callM {α : Type} {enc : α → List AV} {l : List α} {f : FuncId} {xs : List Opd} {ys args : List AV} {t : TypeId} {sz n : Nat} (hm : xs.map (AS.ev ⟨fr, st⟩) = ys) (ha : reifyAll st ys = some args) (hc : Contract P f args (.fresh t sz (l.map enc))) (hf : ∀ a, ∀ c ∈ enc a, Flat c) (hn : st.length = n)
    (h1 : fr.set d (.own n 0 l.length) = fr1) (h2 : st ++ [.row true t sz (l.map enc)] = st1) (hk : regW P r K ⟨fr1, st1⟩) : regW P (⟨some d, .call f xs, none, af⟩ :: r) K ⟨fr, st⟩ := by
  subst h2 hn hm
  refine regW_call (x := .own st.length 0 l.length) ?_ h1 hk
  have := CallR.lendF (P := P) (f := f) args t sz (l.map enc) ha hc (fun e he c hc' => by
    obtain ⟨a, _, rfl⟩ := List.mem_map.1 he
    exact hf a c hc')
  rwa [List.length_map] at this

/-- A call that returns a value without pointers. -/
theorem regW_callV {f : FuncId} {xs : List Opd} {ys args : List AV} {x : AV} (hm : xs.map (AS.ev ⟨fr, st⟩) = ys) (ha : reifyAll st ys = some args) (hc : Contract P f args (.pure x)) (hf : Flat x)
    (h1 : fr.set d x = fr1) (hk : regW P r K ⟨fr1, st⟩) : regW P (⟨some d, .call f xs, none, af⟩ :: r) K ⟨fr, st⟩ := by
  subst hm
  exact regW_call (.lend args x ha hc hf) h1 hk

/-- An index into a row of one's own. -/
theorem regW_lenO {id n : Nat} {x : Opd} (hx : AS.ev ⟨fr, st⟩ x = .own id 0 n) (h1 : fr.set d (.v (.int .i64 (n : Int))) = fr1) (hk : regW P r K ⟨fr1, st⟩) : regW P (⟨some d, .len x, none, af⟩ :: r) K ⟨fr, st⟩ := by
  refine regW_op (x := .v (.int .i64 (n : Int))) (st' := st) ?_ h1 hk
  simp [semF, hx]

end
end Go.Am
