/- The abstract machine: a region that draws its order. -/
import Derived.Test.YthbkdnojneffdaaAmReg
namespace Go.Am
open Go.RowKit

section
variable {P : Program} {s s' : AS}

def WfC (n : Nat) : AV → Prop
  | .own id _ _ => id < n
  | _ => True
def WfV (n : Nat) : AV → Prop
  | .ptr id _ | .rptr id _ _ | .own id _ _ => id < n
  | .agg cs => ∀ c ∈ cs, WfC n c
  | _ => True

def WfOp (o : AOper) (s : AS) : Prop := ∀ y ∈ o.op.opds, WfV s.st.length (s.ev y)

theorem Ext.blk {st st2 : Store} (h : Ext st st2) {id : Nat} (hid : id < st.length) (t : TypeId) (cs : List AV) : st2[id]? = some (.blk t cs) ↔ st[id]? = some (.blk t cs) := by
  have hg : st[id]? = some st[id] := List.getElem?_eq_getElem hid
  constructor
  · intro h2
    rcases h.2 id _ hg with h1 | h1 <;> rw [h2] at h1
    · rw [hg, ← h1]
    · cases ho : st[id] <;> rw [ho] at h1 <;> simp [AObj.freeze] at h1
      rw [hg, ho, h1.1, h1.2]
  · intro h2
    rcases h.2 id _ h2 with h1 | h1
    · exact h1
    · exact h1

theorem Ext.row {st st2 : Store} (h : Ext st st2) {id : Nat} (hid : id < st.length) (t : TypeId) (sz : Nat) (es : List (List AV)) : (∃ f, st2[id]? = some (.row f t sz es)) ↔ ∃ f, st[id]? = some (.row f t sz es) := by
  have hg : st[id]? = some st[id] := List.getElem?_eq_getElem hid
  constructor
  · rintro ⟨f, h2⟩
    rcases h.2 id _ hg with h1 | h1 <;> rw [h2] at h1
    · exact ⟨f, by rw [hg, ← h1]⟩
    · cases ho : st[id] <;> rw [ho] at h1 <;> simp [AObj.freeze] at h1
      rename_i f' t' sz' es'
      exact ⟨f', by rw [hg, ho, h1.2.1, h1.2.2.1, h1.2.2.2]⟩
  · rintro ⟨f, h2⟩
    rcases h.2 id _ h2 with h1 | h1
    · exact ⟨f, h1⟩
    · exact ⟨false, h1⟩

theorem content_ext {st st2 : Store} (h : Ext st st2) {id o n : Nat} (hid : id < st.length) : content st2 (.own id o n) = content st (.own id o n) := by
  have hg : st[id]? = some st[id] := List.getElem?_eq_getElem hid
  simp only [content]
  rcases h.2 id _ hg with h1 | h1 <;> rw [h1, hg]
  cases st[id] <;> rfl
theorem content_lt {st : Store} {id o n : Nat} {es : List (List AV)} (h : content st (.own id o n) = some es) : id < st.length := by
  simp only [content] at h
  split at h
  · rename_i hi; exact (List.getElem?_eq_some_iff.1 hi).1
  · cases h
theorem reifyC_ext {st st2 : Store} (h : Ext st st2) {x : AV} (hw : WfC st.length x) : reifyC st2 x = reifyC st x := by
  cases x with
  | own id o n => simp only [reifyC]; rw [content_ext h hw]
  | fn f cs => cases cs <;> rfl
  | _ => rfl
theorem reifyC_lt {st : Store} {x y : AV} (h : reifyC st x = some y) : WfC st.length x := by
  cases x <;> simp only [WfC]
  case own id o n =>
    simp only [reifyC, Option.map_eq_some_iff] at h
    obtain ⟨es, h1, _⟩ := h
    exact content_lt h1
theorem reifyL_ext {st st2 : Store} (h : Ext st st2) : ∀ {xs : List AV}, (∀ x ∈ xs, WfC st.length x) → reifyL st2 xs = reifyL st xs
  | [], _ => rfl
  | x :: xs, hw => by simp only [reifyL, reifyC_ext h (hw x (by simp)), reifyL_ext h (fun y hy => hw y (List.mem_cons_of_mem _ hy))]
theorem reifyL_lt {st : Store} : ∀ {xs ys : List AV}, reifyL st xs = some ys → ∀ x ∈ xs, WfC st.length x
  | [], _, _, x, hx => by simp at hx
  | a :: xs, ys, h, x, hx => by
    simp only [reifyL] at h
    split at h
    · rename_i y ys' h1 h2
      rcases List.mem_cons.1 hx with rfl | hx
      · exact reifyC_lt h1
      · exact reifyL_lt h2 x hx
    · cases h
theorem reify_ext {st st2 : Store} (h : Ext st st2) {x : AV} (hw : WfV st.length x) : reify st2 x = reify st x := by
  cases x <;> simp only [reify]
  case agg cs => rw [reifyL_ext h hw]
  case own id o n => exact reifyC_ext h hw
  all_goals exact reifyC_ext h (by simp [WfC])
theorem reify_lt {st : Store} {x y : AV} (h : reify st x = some y) : WfV st.length x := by
  cases x <;> simp only [WfV]
  case agg cs =>
    simp only [reify, Option.map_eq_some_iff] at h
    obtain ⟨ys, h1, _⟩ := h
    exact reifyL_lt h1
  case own id o n => exact reifyC_lt (x := .own id o n) (y := y) h
  case ptr id o => simp [reify, reifyC] at h
  case rptr id i o => simp [reify, reifyC] at h
theorem reifyAll_ext {st st2 : Store} (h : Ext st st2) : ∀ {xs : List AV}, (∀ x ∈ xs, WfV st.length x) → reifyAll st2 xs = reifyAll st xs
  | [], _ => rfl
  | x :: xs, hw => by simp only [reifyAll, reify_ext h (hw x (by simp)), reifyAll_ext h (fun y hy => hw y (List.mem_cons_of_mem _ hy))]
theorem reifyAll_lt {st : Store} : ∀ {xs ys : List AV}, reifyAll st xs = some ys → ∀ x ∈ xs, WfV st.length x
  | [], _, _, x, hx => by simp at hx
  | a :: xs, ys, h, x, hx => by
    simp only [reifyAll] at h
    split at h
    · rename_i y ys' h1 h2
      rcases List.mem_cons.1 hx with rfl | hx
      · exact reify_lt h1
      · exact reifyAll_lt h2 x hx
    · cases h
theorem CallV.fwd {f : FuncId} {xs : List AV} {st st2 : Store} {x : AV} (he : Ext st st2) (h : CallV P f xs st x) : CallV P f xs st2 x := by
  obtain ⟨args, h1, h2, h3⟩ := h
  exact ⟨args, by rw [reifyAll_ext he (reifyAll_lt h1)]; exact h1, h2, h3⟩
theorem CallV.back {f : FuncId} {xs : List AV} {st st2 : Store} {x : AV} (he : Ext st st2) (hw : ∀ y ∈ xs, WfV st.length y) (h : CallV P f xs st2 x) : CallV P f xs st x := by
  obtain ⟨args, h1, h2, h3⟩ := h
  exact ⟨args, by rw [← reifyAll_ext he hw]; exact h1, h2, h3⟩
theorem CallV.r {f : FuncId} {xs : List AV} {st : Store} {x : AV} (h : CallV P f xs st x) : CallR P f xs st x st := by
  obtain ⟨args, h1, h2, h3⟩ := h
  exact .lend args x h1 h2 h3

/-- What an operation that reads objects asks of the store. -/
theorem cls1_same {o : AOp} (hc : o.cls = 1) {ρ : Opd → AV} {st st2 : Store} {x : AV} {st' : Store} (he : Ext st st2) :
    (semF P o ρ st = some (x, st') → st' = st ∧ semF P o ρ st2 = some (x, st2)) ∧ ((∀ y ∈ o.opds, WfV st.length (ρ y)) → semF P o ρ st2 = some (x, st') → st' = st2 ∧ semF P o ρ st = some (x, st)) := by
  have conv : ∀ (q : Option AV) (u u2 u' : Store), q.map (·, u) = some (x, u') → u' = u ∧ q.map (·, u2) = some (x, u2) := fun q u u2 u' hq => by
    simp only [Option.map_eq_some_iff] at hq
    obtain ⟨y, hy, h1⟩ := hq
    cases h1
    exact ⟨rfl, by simp [hy]⟩
  cases o with
  | load g sz y =>
    simp only [semF]
    cases hv : ρ y <;> simp only [reduceCtorEq, false_implies, implies_true, and_self]
    · rename_i id off
      constructor
      · intro h
        split at h
        · rename_i t cs h1
          rw [(he.blk (List.getElem?_eq_some_iff.1 h1).1 t cs).2 h1]
          exact conv _ _ _ _ h
        · cases h
      · intro hw h
        have hwy := hw y (by simp [AOp.opds])
        rw [hv] at hwy
        split at h
        · rename_i t cs h1
          rw [(he.blk hwy t cs).1 h1]
          exact conv _ _ _ _ h
        · cases h
    · rename_i id i off
      constructor
      · intro h
        split at h
        · rename_i f t z es h1
          obtain ⟨f', h2⟩ := (he.row (List.getElem?_eq_some_iff.1 h1).1 t z es).2 ⟨f, h1⟩
          rw [h2]
          simp only
          split at h
          · exact conv _ _ _ _ h
          · cases h
        · cases h
      · intro hw h
        have hwy := hw y (by simp [AOp.opds])
        rw [hv] at hwy
        split at h
        · rename_i f t z es h1
          obtain ⟨f', h2⟩ := (he.row hwy t z es).1 ⟨f, h1⟩
          rw [h2]
          simp only
          split at h
          · exact conv _ _ _ _ h
          · cases h
        · cases h
    · rename_i es i off
      constructor
      · intro h
        split at h <;> first
          | exact conv _ _ _ _ h
          | cases h
      · intro _ h
        split at h <;> first
          | exact conv _ _ _ _ h
          | cases h
  | ia sz y z =>
    simp only [semF]
    split
    · rename_i es k n h1 h2
      refine ⟨fun h => ?_, fun _ h => ?_⟩ <;> split at h
      · rename_i hb
        split at h
        · rename_i e h3
          split at h
          · rename_i h4; cases h; exact ⟨rfl, by simp [hb, h4]⟩
          · cases h
        · cases h
      · cases h
      · rename_i hb
        split at h
        · rename_i e h3
          split at h
          · rename_i h4; cases h; exact ⟨rfl, by simp [hb, h4]⟩
          · cases h
        · cases h
      · cases h
    · rename_i id off len k n h1 h2
      constructor
      · intro h
        split at h
        · rename_i f t z es h3
          obtain ⟨f', h4⟩ := (he.row (List.getElem?_eq_some_iff.1 h3).1 t z es).2 ⟨f, h3⟩
          rw [h4]
          split at h
          · rename_i hb; cases h; exact ⟨rfl, by simp [hb]⟩
          · cases h
        · cases h
      · intro hw h
        have hwy := hw y (by simp [AOp.opds])
        rw [h1] at hwy
        split at h
        · rename_i f t z es h3
          obtain ⟨f', h4⟩ := (he.row hwy t z es).1 ⟨f, h3⟩
          rw [h4]
          split at h
          · rename_i hb; cases h; exact ⟨rfl, by simp [hb]⟩
          · cases h
        · cases h
    · simp
  | slice sz y lo hi =>
    simp only [semF]
    split
    · rename_i es h1
      refine ⟨fun h => ?_, fun _ h => ?_⟩ <;> split at h <;> first
        | (rename_i l u h2 h3
           split at h
           · rename_i hb; cases h; exact ⟨rfl, by simp only [if_pos hb]⟩
           · cases h)
        | cases h
    · rename_i id off len h1
      constructor
      · intro h
        split at h
        · rename_i l u f t z es h2 h3 h4
          obtain ⟨f', h5⟩ := (he.row (List.getElem?_eq_some_iff.1 h4).1 t z es).2 ⟨f, h4⟩
          rw [h5]
          split at h
          · rename_i hb
            split at h
            · rename_i hq; cases h; exact ⟨rfl, by simp only [h2, h3]; rw [if_pos hb, if_pos hq]⟩
            · rename_i hq; cases h; exact ⟨rfl, by simp only [h2, h3]; rw [if_pos hb, if_neg hq]⟩
          · cases h
        · cases h
      · intro hw h
        have hwy := hw y (by simp [AOp.opds])
        rw [h1] at hwy
        split at h
        · rename_i l u f t z es h2 h3 h4
          obtain ⟨f', h5⟩ := (he.row hwy t z es).1 ⟨f, h4⟩
          rw [h5]
          split at h
          · rename_i hb
            split at h
            · rename_i hq; cases h; exact ⟨rfl, by simp only [h2, h3]; rw [if_pos hb, if_pos hq]⟩
            · rename_i hq; cases h; exact ⟨rfl, by simp only [h2, h3]; rw [if_pos hb, if_neg hq]⟩
          · cases h
        · cases h
    · refine ⟨fun h => ?_, fun _ h => ?_⟩ <;> split at h <;> first
        | (rename_i l u h2 h3
           split at h
           · rename_i hb; cases h; exact ⟨rfl, by simp only [if_pos hb]⟩
           · cases h)
        | cases h
    · simp
  | call v f xs => simp [semF]
  | _ => simp [AOp.cls] at hc

end
end Go.Am
