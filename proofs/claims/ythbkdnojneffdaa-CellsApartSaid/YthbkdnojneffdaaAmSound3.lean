/- The abstract machine: struct values, stores, new objects in general. -/
import Derived.Test.YthbkdnojneffdaaAmSound2
namespace Go.Am
open Go.RowKit

section
variable {P : Program} {I0 : Nat → Prop} {w0 : World} {m : LMap} {I : Nat → Prop} {s : AS} {a : Act} {w : World}

/-! ### Lists of cells -/

theorem splice_get (cs new : List AV) (off k : Nat) (h : off + new.length ≤ cs.length) : (splice cs off new)[k]? = if off ≤ k ∧ k < off + new.length then new[k - off]? else cs[k]? := by
  unfold splice
  have hto : (cs.take off).length = off := by simp; omega
  by_cases h1 : k < off
  · rw [if_neg (by omega), List.append_assoc, List.getElem?_append_left (by omega), List.getElem?_take_of_lt h1]
  · by_cases h2 : k < off + new.length
    · rw [if_pos ⟨by omega, h2⟩, List.append_assoc, List.getElem?_append_right (by omega), hto, List.getElem?_append_left (by omega)]
    · rw [if_neg (by omega), List.getElem?_append_right (by simp; omega), List.getElem?_drop]
      congr 1
      simp
      omega

theorem splice_length (cs new : List AV) (off : Nat) (h : off + new.length ≤ cs.length) : (splice cs off new).length = cs.length := by
  unfold splice; simp; omega

theorem foldl_set_get (off : Nat) : ∀ (l : List (Value × Nat)) (st : Nat) (cells : Array Value) (k : Nat), (∀ (i : Nat) (p : Value × Nat), l[i]? = some p → p.2 = st + i) →
    (l.foldl (fun cs (p : Value × Nat) => cs.setIfInBounds (off + p.2) p.1) cells)[k]? = if off + st ≤ k ∧ k < off + st + l.length ∧ k < cells.size then (l[k - (off + st)]?).map (·.1) else cells[k]?
  | [], st, cells, k, _ => by simp; omega
  | (v, j) :: l, st, cells, k, hp => by
    have hj : j = st := by simpa using hp 0 (v, j) rfl
    subst hj
    simp only [List.foldl_cons]
    rw [foldl_set_get off l (j + 1) _ k (fun i p h => by have := hp (i + 1) p (by simpa using h); omega)]
    simp only [Array.size_setIfInBounds, Array.getElem?_setIfInBounds, List.length_cons]
    by_cases h1 : off + (j + 1) ≤ k ∧ k < off + (j + 1) + l.length ∧ k < cells.size
    · rw [if_pos h1, if_pos (by omega)]
      have : k - (off + j) = (k - (off + (j + 1))) + 1 := by omega
      rw [this, List.getElem?_cons_succ]
    · rw [if_neg h1]
      by_cases h2 : off + j = k
      · subst h2
        by_cases h3 : off + j < cells.size
        · simp [h3]
        · have h4 : cells[off + j]? = none := Array.getElem?_eq_none (by omega)
          simp [h3]
      · rw [if_neg h2, if_neg (by omega)]

theorem cells_set_get (u : Array Value) (off : Nat) (cells : Array Value) (k : Nat) (hle : off + u.size ≤ cells.size) :
    (u.zipIdx.foldl (fun cs (p : Value × Nat) => cs.setIfInBounds (off + p.2) p.1) cells)[k]? = if off ≤ k ∧ k < off + u.size then u[k - off]? else cells[k]? := by
  rw [← Array.foldl_toList, foldl_set_get off u.zipIdx.toList 0 cells k (fun i p h => by
    simp only [Array.toList_zipIdx, List.getElem?_zipIdx, Option.map_eq_some_iff] at h
    obtain ⟨x, _, rfl⟩ := h
    simp)]
  simp only [Nat.add_zero, Array.toList_zipIdx, List.length_zipIdx, Array.length_toList, List.getElem?_zipIdx, Option.map_map]
  by_cases h : off ≤ k ∧ k < off + u.size
  · rw [if_pos (by omega), if_pos h]
    simp [Function.comp_def]
  · rw [if_neg (by omega), if_neg h]

theorem cells_set_size (u : Array Value) (off : Nat) (cells : Array Value) : (u.zipIdx.foldl (fun cs (p : Value × Nat) => cs.setIfInBounds (off + p.2) p.1) cells).size = cells.size := by
  rw [← Array.foldl_toList]
  generalize u.zipIdx.toList = l
  induction l generalizing cells with
  | nil => rfl
  | cons p l ih => rw [List.foldl_cons, ih, Array.size_setIfInBounds]

/-! ### Struct values -/

theorem fill_rep (h : Rel I0 w0 m I s a w) (place : Nat → Option (Nat × Nat)) : ∀ (parts : List (Nat × Operand)) (ps : List (Nat × Nat × Opd)) (z cs : List AV) (us : Array Value), compPlaces place parts = some ps → fillA s.ev z ps = some cs →
    us.size = z.length → (∀ (i : Nat) (c : AV) (u : Value), z[i]? = some c → us[i]? = some u → Rep m s.st.length I w c u) →
    ∃ us', Instr.fill place us (parts.map fun p => (p.1, a.eval p.2)) = some us' ∧ us'.size = cs.length ∧ ∀ (i : Nat) (c : AV) (u : Value), cs[i]? = some c → us'[i]? = some u → Rep m s.st.length I w c u
  | [], ps, z, cs, us, hc, hf, hl, hr => by
    simp [compPlaces] at hc
    subst hc
    simp [fillA] at hf
    subst hf
    exact ⟨us, rfl, hl, hr⟩
  | (i, x) :: r, ps, z, cs, us, hc, hf, hl, hr => by
    simp only [compPlaces] at hc
    split at hc
    · rename_i p y ys hp hy hys
      cases hc
      simp only [fillA] at hf
      split at hf
      · rename_i ds hds
        split at hf
        · rename_i hb
          obtain ⟨hsz, hdr⟩ := (rep_compX h hy).cells hds
          have hle : p.1 + (a.eval x).cells.size ≤ us.size := by omega
          have step : Instr.fill place us (((i, x) :: r).map fun p => (p.1, a.eval p.2)) = Instr.fill place ((a.eval x).cells.zipIdx.foldl (fun cs (p' : Value × Nat) => cs.setIfInBounds (p.1 + p'.2) p'.1) us) (r.map fun p => (p.1, a.eval p.2)) := by
            simp only [List.map_cons, Instr.fill, hp]
            rw [if_neg]
            simp
            omega
          rw [step]
          refine fill_rep h place r ys (splice z p.1 ds) cs _ hys hf ?_ (fun k c u hk hu => ?_)
          · rw [cells_set_size, splice_length _ _ _ (by omega), hl]
          · rw [splice_get _ _ _ _ (by omega)] at hk
            rw [cells_set_get _ _ _ _ hle] at hu
            rw [hsz] at hu
            by_cases hin : p.1 ≤ k ∧ k < p.1 + ds.length
            · rw [if_pos hin] at hk hu
              exact hdr _ _ _ hk hu
            · rw [if_neg hin] at hk hu
              exact hr _ _ _ hk hu
        · cases hf
      · cases hf
    · cases hc

theorem ok_build (h : Rel I0 w0 m I s a w) {o : Oper} {t : TypeId} {parts : Array (Nat × Operand)} {ps : List (Nat × Nat × Opd)} {z : Value} {place : Nat → Option (Nat × Nat)} {cs : List AV} (ho : o.op = .build t parts) (hps : compPlaces place parts.toList = some ps)
    (hb : ∀ l, P.built t l = Instr.fill place z.cells l) (hf : fillA s.ev (z.cells.toList.map ofCell) ps = some cs) : OpOk P I0 w0 o a w s (.agg cs) s.st := by
  obtain ⟨us', h1, h2, h3⟩ := fill_rep h place parts.toList ps (z.cells.toList.map ofCell) cs z.cells hps hf (by simp) (fun i c u hc hu => by
    simp only [List.getElem?_map, Array.getElem?_toList, hu, Option.map_some, Option.some.injEq] at hc
    subst hc
    exact rep_ofCell _ u)
  refine OpOk.same h (u := .agg us') ?_ (.agg _ _ h2 h3)
  have := run_build (P := P) w t (parts.map fun p => (p.1, a.eval p.2)) us' (by rw [hb]; simpa using h1)
  simp [execOp, ho, this]

/-! ### One object more, in general; one object turned; one let go -/

theorem Obj.ok_dead {m : LMap} {n : Nat} {I : Nat → Prop} {w : World} {lo id : Nat} {o : AObj} (h : Obj.ok m n I w lo id o) (hg : o ≠ .gone) (hl : ¬ o.live) (hn : (m id).nil = false) : I (m id).b := by
  cases o with
  | gone => exact absurd rfl hg
  | blk t cs => exact absurd trivial hl
  | row free t sz es =>
    rcases h with ⟨h, _⟩ | ⟨_, h0, _⟩
    · rw [hn] at h; cases h
    · have hf : ¬ free = true := hl
      rw [if_neg hf] at h0
      exact h0

theorem Rel.more2 (h : Rel I0 w0 m I s a w) {w' : World} {I' : Nat → Prop} (l : Loc) (o : AObj) (hs : w.heap.size ≤ w'.heap.size) (hos : w'.os = w.os) (ht : w'.tape = w.tape) (hout : w'.output = w.output)
    (hlow : ∀ k, k < w0.heap.size → w'.heap[k]? = w.heap[k]?) (hkeep : ∀ (id : Nat) (o' : AObj), s.st[id]? = some o' → o' ≠ .gone → (m id).nil = false → w'.heap[(m id).b]? = w.heap[(m id).b]?)
    (hI : ∀ b, I b → I' b) (hIw : ∀ b, I b → w'.heap[b]? = w.heap[b]?) (hI' : ∀ b, I' b → I b ∨ (w.heap.size ≤ b ∧ b < w'.heap.size))
    (hfar : o.live → l.nil = false → ∀ (id : Nat) (o' : AObj), s.st[id]? = some o' → o'.live → (m id).nil = false → (m id).b ≠ l.b)
    (ho : Obj.ok (updM m s.st.length l) (s.st.length + 1) I' w' w0.heap.size s.st.length o) :
    Rel I0 w0 (updM m s.st.length l) I' { s with st := s.st ++ [o] } a w' := by
  have hsz0 : w0.heap.size ≤ w.heap.size := h.bel.size
  have hlen : (s.st ++ [o]).length = s.st.length + 1 := by simp
  refine ⟨h.size, fun i x u hx hu => ?_, h.df, ⟨hos.trans h.bel.os, ht.trans h.bel.tape, hout.trans h.bel.output, Nat.le_trans hsz0 hs, fun k hk => (hlow k hk).trans (h.bel.block k hk)⟩, fun b hb' => ?_, fun b hb' => ?_, fun id o' ho' => ?_, fun id id' o1 o2 h1 h2 l1 l2 n1 n2 hne => ?_⟩
  · rw [hlen]; exact (h.fr i x u hx hu).mono (by omega) (fun k hk => updM_lt hk) hI hIw
  · rcases hI' b hb' with h1 | h1
    · exact Nat.lt_of_lt_of_le (h.imm b h1) hs
    · exact h1.2
  · rcases hI' b hb' with h1 | h1
    · exact h.iz b h1
    · exact .inr (by omega)
  · rw [hlen]
    rcases Nat.lt_or_ge id s.st.length with hlt' | hge
    · rw [List.getElem?_append_left hlt'] at ho'
      by_cases hg : o' = .gone
      · subst hg; trivial
      · refine Obj.ok_mono (h.obj id o' ho') hlt' (by omega) (fun k hk => updM_lt hk) hI hIw (hkeep id o' ho' hg) (fun hlv hn hi => ?_)
        have hbl := Obj.ok_lt (h.obj id o' ho') hg hn
        rcases hI' _ hi with h1 | h1
        · exact (Obj.ok_live (h.obj id o' ho') hlv hn).2 h1
        · omega
    · have : id = s.st.length := by
        have := (List.getElem?_eq_some_iff.1 ho').1
        simp at this; omega
      subst this
      simp at ho'
      subst ho'
      exact ho
  · have key : ∀ id o', (s.st ++ [o])[id]? = some o' → o'.live → (updM m s.st.length l id).nil = false → (id < s.st.length ∧ s.st[id]? = some o' ∧ updM m s.st.length l id = m id ∧ (m id).nil = false) ∨ (id = s.st.length ∧ updM m s.st.length l id = l ∧ o.live ∧ l.nil = false) := by
      intro id o' h1 h2 hn
      rcases Nat.lt_or_ge id s.st.length with hlt' | hge
      · rw [List.getElem?_append_left hlt'] at h1
        rw [updM_lt hlt'] at hn
        exact .inl ⟨hlt', h1, updM_lt hlt', hn⟩
      · have : id = s.st.length := by
          have := (List.getElem?_eq_some_iff.1 h1).1
          simp at this; omega
        subst this
        simp at h1
        subst h1
        rw [updM_eq] at hn
        exact .inr ⟨rfl, updM_eq, h2, hn⟩
    rcases key id o1 h1 l1 n1 with ⟨a1, a2, a3, a4⟩ | ⟨a1, a3, a4, a5⟩ <;> rcases key id' o2 h2 l2 n2 with ⟨b1, b2, b3, b4⟩ | ⟨b1, b3, b4, b5⟩
    · rw [a3, b3]; exact h.inj id id' o1 o2 a2 b2 l1 l2 a4 b4 hne
    · rw [a3, b3]; exact hfar b4 b5 id o1 a2 l1 a4
    · rw [a3, b3]; exact fun e => hfar a4 a5 id' o2 b2 l2 b4 e.symm
    · omega

/-- An object is let go. -/
theorem Rel.kill (h : Rel I0 w0 m I s a w) (id : Nat) : Rel I0 w0 m I { s with st := s.st.set id .gone } a w := by
  have key : ∀ (k : Nat) (o : AObj), (s.st.set id .gone)[k]? = some o → o ≠ .gone → k ≠ id ∧ s.st[k]? = some o := fun k o hk hg => by
    rw [List.getElem?_set] at hk
    by_cases e : id = k
    · rw [if_pos e] at hk
      split at hk
      · cases hk; exact absurd rfl hg
      · cases hk
    · rw [if_neg e] at hk
      exact ⟨fun e' => e e'.symm, hk⟩
  refine ⟨h.size, by simpa using h.fr, h.df, h.bel, h.imm, h.iz, fun k o hk => ?_, fun k k' o o' hk hk' l l' n1 n2 hne => ?_⟩
  · by_cases hg : o = .gone
    · subst hg; trivial
    · simpa using h.obj k o (key k o hk hg).2
  · exact h.inj k k' o o' (key k o hk (AObj.live_ne l)).2 (key k' o' hk' (AObj.live_ne l')).2 l l' n1 n2 hne

/-- A live object has turned, in its own block. -/
theorem Rel.turn (h : Rel I0 w0 m I s a w) {w' : World} {id : Nat} {o o' : AObj} (ho : s.st[id]? = some o) (hl : o.live) (hnil : (m id).nil = false) (hs : w'.heap.size = w.heap.size) (hos : w'.os = w.os) (ht : w'.tape = w.tape) (hout : w'.output = w.output)
    (hw : ∀ k, k ≠ (m id).b → w'.heap[k]? = w.heap[k]?) (hl' : o'.live) (ok : Obj.ok m s.st.length I w' w0.heap.size id o') : Rel I0 w0 m I { s with st := s.st.set id o' } a w' := by
  obtain ⟨hlo, hnI⟩ := Obj.ok_live (h.obj id o ho) hl hnil
  have hIw : ∀ b, I b → w'.heap[b]? = w.heap[b]? := fun b hb => hw b (fun e => hnI (e ▸ hb))
  have hid : id < s.st.length := (List.getElem?_eq_some_iff.1 ho).1
  have key : ∀ (k : Nat) (x : AObj), (s.st.set id o')[k]? = some x → (k = id ∧ x = o') ∨ (k ≠ id ∧ s.st[k]? = some x) := fun k x hk => by
    rw [List.getElem?_set] at hk
    by_cases e : id = k
    · rw [if_pos e, if_pos hid] at hk
      cases hk
      exact .inl ⟨e.symm, rfl⟩
    · rw [if_neg e] at hk
      exact .inr ⟨fun e' => e e'.symm, hk⟩
  refine ⟨h.size, fun i x u hx hu => ?_, h.df, ⟨hos.trans h.bel.os, ht.trans h.bel.tape, hout.trans h.bel.output, by rw [hs]; exact h.bel.size, fun k hk => (hw k (by omega)).trans (h.bel.block k hk)⟩, fun b hb => by rw [hs]; exact h.imm b hb, h.iz, fun k x hk => ?_, fun k k' x x' hk hk' l l' n1 n2 hne => ?_⟩
  · simpa using (h.fr i x u hx hu).mono (Nat.le_refl _) (fun _ _ => rfl) (fun _ hb => hb) hIw
  · simp only [List.length_set]
    rcases key k x hk with ⟨rfl, rfl⟩ | ⟨hne, hk'⟩
    · exact ok
    · by_cases hg : x = .gone
      · subst hg; trivial
      · have hok := h.obj k x hk'
        refine Obj.ok_mono hok (List.getElem?_eq_some_iff.1 hk').1 (Nat.le_refl _) (fun _ _ => rfl) (fun _ hb => hb) hIw (fun hn => ?_) (fun hlv hn hi => (Obj.ok_live hok hlv hn).2 hi)
        by_cases hlv : x.live
        · exact hw _ (fun e => h.inj k id x o hk' ho hlv hl hn hnil hne e)
        · exact hIw _ (Obj.ok_dead hok hg hlv hn)
  · have conv : ∀ k x, (k = id ∧ x = o') ∨ (k ≠ id ∧ s.st[k]? = some x) → x.live → ∃ y, s.st[k]? = some y ∧ y.live := fun k x hh hlv => by
      rcases hh with ⟨rfl, rfl⟩ | ⟨_, hk⟩
      · exact ⟨o, ho, hl⟩
      · exact ⟨x, hk, hlv⟩
    obtain ⟨y, hy, hyl⟩ := conv k x (key k x hk) l
    obtain ⟨y', hy', hyl'⟩ := conv k' x' (key k' x' hk') l'
    exact h.inj k k' y y' hy hy' hyl hyl' n1 n2 hne

end
end Go.Am
