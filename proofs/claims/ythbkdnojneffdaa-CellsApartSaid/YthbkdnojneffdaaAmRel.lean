/- The abstract machine: states, and what they stand for; how the relation lasts over steps of the world. -/
import Derived.Test.YthbkdnojneffdaaAmBase
import Derived.Below
namespace Go.Am
open Go.RowKit

structure AS where
  fr : List AV
  st : Store

def AObj.live : AObj → Prop
  | .blk _ _ => True
  | .row free _ _ _ => free = true
  | .gone => False

/-- An object lies where the map says. -/
def Obj.ok (m : LMap) (n : Nat) (I : Nat → Prop) (w : World) (lo id : Nat) : AObj → Prop
  | .gone => True
  | .blk t cs => (m id).nil = false ∧ lo ≤ (m id).b ∧ ¬ I (m id).b ∧ ∃ us : Array Value, w.heap[(m id).b]? = some (.cells us t (0, 0)) ∧ us.size = cs.length ∧
      ∀ (i : Nat) (c : AV) (u : Value), cs[i]? = some c → us[i]? = some u → Rep m n I w c u
  | .row free t sz es => ((m id).nil = true ∧ (m id).cap = 0 ∧ es = []) ∨ ((m id).nil = false ∧ (if free = true then lo ≤ (m id).b ∧ ¬ I (m id).b else I (m id).b) ∧ (m id).sz = sz ∧ 0 < sz ∧ es.length ≤ (m id).cap ∧ (m id).cap ≤ maxLen ∧
      (∀ e ∈ es, EOk sz e) ∧ ∃ us : Array Value, w.heap[(m id).b]? = some (.cells us t (0, 0)) ∧ us.size = (m id).cap * sz ∧
      ∀ (i : Nat) (e : List AV) (j : Nat) (x : AV) (u : Value), es[i]? = some e → e[j]? = some x → us[i * sz + j]? = some u → Rep m n I w x u)

theorem Obj.ok_mono {m m' : LMap} {n n' : Nat} {I I' : Nat → Prop} {w w' : World} {lo id : Nat} {o : AObj} (h : Obj.ok m n I w lo id o) (hid : id < n) (hn : n ≤ n')
    (hm : ∀ k, k < n → m' k = m k) (hI : ∀ b, I b → I' b) (hw : ∀ b, I b → w'.heap[b]? = w.heap[b]?) (hb : (m id).nil = false → w'.heap[(m id).b]? = w.heap[(m id).b]?) (hl : o.live → (m id).nil = false → ¬ I' (m id).b) :
    Obj.ok m' n' I' w' lo id o := by
  cases o with
  | gone => trivial
  | blk t cs =>
    obtain ⟨h0, h1, h2, us, h3, h4, h5⟩ := h
    unfold Obj.ok
    rw [hm id hid]
    exact ⟨h0, h1, hl trivial h0, us, (hb h0).trans h3, h4, fun i c u a b => (h5 i c u a b).mono hn hm hI hw⟩
  | row free t sz es =>
    unfold Obj.ok
    rw [hm id hid]
    rcases h with h | ⟨hnil, h0, h1, h2, h3, h4, h5, us, h6, h7, h8⟩
    · exact .inl h
    · refine .inr ⟨hnil, ?_, h1, h2, h3, h4, h5, us, (hb hnil).trans h6, h7, fun i e j x u a b c => (h8 i e j x u a b c).mono hn hm hI hw⟩
      split
      · rename_i hf
        rw [if_pos hf] at h0
        exact ⟨h0.1, hl hf hnil⟩
      · rename_i hf
        rw [if_neg hf] at h0
        exact hI _ h0

theorem Obj.ok_live {m : LMap} {n : Nat} {I : Nat → Prop} {w : World} {lo id : Nat} {o : AObj} (h : Obj.ok m n I w lo id o) (hl : o.live) (hn : (m id).nil = false) : lo ≤ (m id).b ∧ ¬ I (m id).b := by
  cases o with
  | gone => cases hl
  | blk t cs => exact ⟨h.2.1, h.2.2.1⟩
  | row free t sz es =>
    rcases h with ⟨h, _⟩ | ⟨_, h0, _⟩
    · rw [hn] at h; cases h
    · have hf : free = true := hl
      rw [if_pos hf] at h0
      exact h0

theorem Obj.ok_lt {m : LMap} {n : Nat} {I : Nat → Prop} {w : World} {lo id : Nat} {o : AObj} (h : Obj.ok m n I w lo id o) (hl : o ≠ .gone) (hn : (m id).nil = false) : (m id).b < w.heap.size := by
  cases o with
  | gone => exact absurd rfl hl
  | blk t cs => obtain ⟨_, _, _, us, h3, _⟩ := h; exact (Array.getElem?_eq_some_iff.1 h3).1
  | row free t sz es =>
    rcases h with ⟨h, _⟩ | ⟨_, _, _, _, _, _, _, us, h3, _⟩
    · rw [hn] at h; cases h
    · exact (Array.getElem?_eq_some_iff.1 h3).1

theorem AObj.live_ne {o : AObj} (h : o.live) : o ≠ .gone := by rintro rfl; cases h

/-- What a state stands for. 'w0': the world at the function's entry; 'I0': the blocks that its arguments may lie in. -/
structure Rel (I0 : Nat → Prop) (w0 : World) (m : LMap) (I : Nat → Prop) (s : AS) (a : Act) (w : World) : Prop where
  size : a.tmps.size = s.fr.length
  fr : ∀ (i : Nat) (x : AV) (u : Value), s.fr[i]? = some x → a.tmps[i]? = some u → Rep m s.st.length I w x u
  df : a.defers = []
  bel : Below w0.heap.size w0 w
  imm : ∀ b, I b → b < w.heap.size
  iz : ∀ b, I b → I0 b ∨ w0.heap.size ≤ b
  obj : ∀ (id : Nat) (o : AObj), s.st[id]? = some o → Obj.ok m s.st.length I w w0.heap.size id o
  inj : ∀ (id id' : Nat) (o o' : AObj), s.st[id]? = some o → s.st[id']? = some o' → o.live → o'.live → (m id).nil = false → (m id').nil = false → id ≠ id' → (m id).b ≠ (m id').b

def Good (I0 : Nat → Prop) (w0 : World) (s : AS) (a : Act) (w : World) : Prop := ∃ m I, Rel I0 w0 m I s a w

def AS.put (s : AS) (d : Option Nat) (x : AV) : AS :=
  match d with
  | some d => { s with fr := s.fr.set d x }
  | none => s

theorem Rel.put {I0 : Nat → Prop} {w0 : World} {m : LMap} {I : Nat → Prop} {s : AS} {a : Act} {w : World} (h : Rel I0 w0 m I s a w) (d : Option Nat) {x : AV} {u : Value}
    (hr : Rep m s.st.length I w x u) : Rel I0 w0 m I (s.put d x) (a.put d u) w := by
  cases d with
  | none => exact h
  | some d =>
    refine ⟨by simp [AS.put, Act.put, h.size], fun i y v hy hv => ?_, h.df, h.bel, h.imm, h.iz, h.obj, h.inj⟩
    simp only [AS.put, Act.put, List.getElem?_set, Array.getElem?_setIfInBounds] at hy hv
    by_cases hd : d = i
    · subst hd
      simp only [if_true] at hy hv
      by_cases hlt : d < s.fr.length
      · have hlt' : d < a.tmps.size := by rw [h.size]; exact hlt
        simp only [hlt, hlt', if_true, Option.some.injEq] at hy hv
        subst hy hv
        exact hr
      · simp [hlt] at hy
    · simp only [hd, if_false] at hy hv
      exact h.fr i y v hy hv

/-- The evaluation of an operand. -/
theorem Rel.eval {I0 : Nat → Prop} {w0 : World} {m : LMap} {I : Nat → Prop} {s : AS} {a : Act} {w : World} (h : Rel I0 w0 m I s a w) (t : Nat) :
    Rep m s.st.length I w (s.fr.getD t (.v undef)) (a.tmps.getD t undef) := by
  by_cases hlt : t < s.fr.length
  · have hlt' : t < a.tmps.size := by rw [h.size]; exact hlt
    have := h.fr t s.fr[t] a.tmps[t] (List.getElem?_eq_getElem hlt) (Array.getElem?_eq_getElem hlt')
    simpa [hlt, hlt'] using this
  · have hlt' : ¬ t < a.tmps.size := by rw [h.size]; exact hlt
    have h1 : s.fr[t]? = none := List.getElem?_eq_none (by omega)
    have h2 : a.tmps[t]? = none := Array.getElem?_eq_none (by omega)
    simp only [List.getD, h1, Array.getD_eq_getD_getElem?, h2, Option.getD_none]
    exact .v _

def updM (m : LMap) (n : Nat) (l : Loc) : LMap := fun k => if k = n then l else m k

theorem updM_lt {m : LMap} {n : Nat} {l : Loc} {k : Nat} (h : k < n) : updM m n l k = m k := by simp [updM, Nat.ne_of_lt h]
theorem updM_eq {m : LMap} {n : Nat} {l : Loc} : updM m n l n = l := by simp [updM]

/-- The world has grown; one more object has come, in a block that was not there. -/
theorem Rel.more {I0 : Nat → Prop} {w0 : World} {m : LMap} {I I' : Nat → Prop} {s : AS} {a : Act} {w w' : World} (h : Rel I0 w0 m I s a w) (l : Loc) (o : AObj)
    (hb : Below w.heap.size w w') (hI : ∀ b, I b → I' b) (hI' : ∀ b, I' b → I b ∨ (w.heap.size ≤ b ∧ b < w'.heap.size))
    (hl : o.live → l.nil = false → w.heap.size ≤ l.b)
    (ho : Obj.ok (updM m s.st.length l) (s.st.length + 1) I' w' w0.heap.size s.st.length o) :
    Rel I0 w0 (updM m s.st.length l) I' { s with st := s.st ++ [o] } a w' := by
  have hsz0 : w0.heap.size ≤ w.heap.size := h.bel.size
  have hlen : (s.st ++ [o]).length = s.st.length + 1 := by simp
  have hw : ∀ b, I b → w'.heap[b]? = w.heap[b]? := fun b hb' => hb.block b (h.imm b hb')
  have hlt : ∀ id o', s.st[id]? = some o' → o'.live → (m id).nil = false → (m id).b < w.heap.size := fun id o' h1 h2 hn => Obj.ok_lt (h.obj id o' h1) (AObj.live_ne h2) hn
  have hblk : ∀ id o', s.st[id]? = some o' → o' ≠ .gone → (m id).nil = false → (m id).b < w.heap.size := fun id o' h1 h2 hn => Obj.ok_lt (h.obj id o' h1) h2 hn
  refine ⟨h.size, fun i x u hx hu => ?_, h.df, h.bel.trans (hb.mono hsz0), fun b hb' => ?_, fun b hb' => ?_, fun id o' ho' => ?_, fun id id' o1 o2 h1 h2 l1 l2 n1 n2 hne => ?_⟩
  · rw [hlen]; exact (h.fr i x u hx hu).mono (by omega) (fun k hk => updM_lt hk) hI hw
  · rcases hI' b hb' with h1 | h1
    · exact Nat.lt_of_lt_of_le (h.imm b h1) hb.size
    · exact h1.2
  · rcases hI' b hb' with h1 | h1
    · exact h.iz b h1
    · exact .inr (by omega)
  · rw [hlen]
    rcases Nat.lt_or_ge id s.st.length with hlt' | hge
    · rw [List.getElem?_append_left hlt'] at ho'
      by_cases hg : o' = .gone
      · subst hg; trivial
      · refine Obj.ok_mono (h.obj id o' ho') hlt' (by omega) (fun k hk => updM_lt hk) hI hw (fun hn => hb.block _ (hblk id o' ho' hg hn)) (fun hlv hn hi => ?_)
        have hbl := hblk id o' ho' hg hn
        rcases hI' _ hi with h1 | h1
        · exact (Obj.ok_live (h.obj id o' ho') hlv hn).2 h1
        · omega
    · have : id = s.st.length := by
        have := (List.getElem?_eq_some_iff.1 ho').1
        simp at this; omega
      subst this
      simp at ho'
      subst ho'
      exact ho
  · have key : ∀ id o', (s.st ++ [o])[id]? = some o' → o'.live → (updM m s.st.length l id).nil = false → (id < s.st.length ∧ s.st[id]? = some o' ∧ updM m s.st.length l id = m id ∧ (m id).b < w.heap.size) ∨ (id = s.st.length ∧ updM m s.st.length l id = l ∧ w.heap.size ≤ l.b) := by
      intro id o' h1 h2 hn
      rcases Nat.lt_or_ge id s.st.length with hlt' | hge
      · rw [List.getElem?_append_left hlt'] at h1
        rw [updM_lt hlt'] at hn
        exact .inl ⟨hlt', h1, updM_lt hlt', hlt id o' h1 h2 hn⟩
      · have : id = s.st.length := by
          have := (List.getElem?_eq_some_iff.1 h1).1
          simp at this; omega
        subst this
        simp at h1
        subst h1
        rw [updM_eq] at hn
        exact .inr ⟨rfl, updM_eq, hl h2 hn⟩
    rcases key id o1 h1 l1 n1 with ⟨a1, a2, a3, a4⟩ | ⟨a1, a3, a4⟩ <;> rcases key id' o2 h2 l2 n2 with ⟨b1, b2, b3, b4⟩ | ⟨b1, b3, b4⟩
    · rw [a3] at n1 ⊢; rw [b3] at n2 ⊢; exact h.inj id id' o1 o2 a2 b2 l1 l2 n1 n2 hne
    · rw [a3, b3]; omega
    · rw [a3, b3]; omega
    · omega

/-- The world has grown; no object has come. -/
theorem Rel.grow {I0 : Nat → Prop} {w0 : World} {m : LMap} {I I' : Nat → Prop} {s : AS} {a : Act} {w w' : World} (h : Rel I0 w0 m I s a w)
    (hb : Below w.heap.size w w') (hI : ∀ b, I b → I' b) (hI' : ∀ b, I' b → I b ∨ (w.heap.size ≤ b ∧ b < w'.heap.size)) : Rel I0 w0 m I' s a w' := by
  have hw : ∀ b, I b → w'.heap[b]? = w.heap[b]? := fun b hb' => hb.block b (h.imm b hb')
  have hsz0 : w0.heap.size ≤ w.heap.size := h.bel.size
  refine ⟨h.size, fun i x u hx hu => (h.fr i x u hx hu).mono (Nat.le_refl _) (fun _ _ => rfl) hI hw, h.df, h.bel.trans (hb.mono hsz0), fun b hb' => ?_, fun b hb' => ?_, fun id o ho => ?_, h.inj⟩
  · rcases hI' b hb' with h1 | h1
    · exact Nat.lt_of_lt_of_le (h.imm b h1) hb.size
    · exact h1.2
  · rcases hI' b hb' with h1 | h1
    · exact h.iz b h1
    · exact .inr (by omega)
  · have hid : id < s.st.length := (List.getElem?_eq_some_iff.1 ho).1
    have hok := h.obj id o ho
    by_cases hg : o = .gone
    · subst hg; trivial
    · refine Obj.ok_mono hok hid (Nat.le_refl _) (fun _ _ => rfl) hI hw (fun hn => hb.block _ (Obj.ok_lt hok hg hn)) (fun hlv hn hi => ?_)
      rcases hI' _ hi with h1 | h1
      · exact (Obj.ok_live hok hlv hn).2 h1
      · have := Obj.ok_lt hok hg hn; omega

end Go.Am
