/- The abstract machine: loads, addresses, slices, stores. -/
import Derived.Test.YthbkdnojneffdaaAmSound
namespace Go.Am
open Go.RowKit

section
variable {P : Program} {I0 : Nat → Prop} {w0 : World} {m : LMap} {I : Nat → Prop} {s : AS} {a : Act} {w : World}

theorem add_lit' (b o n : Nat) : (⟨b, o, none⟩ : Addr).add n = ⟨b, o + n, none⟩ := by unfold Addr.add; split <;> simp_all

/-- Cells that are known are loaded. -/
theorem load_core {n : Nat} {t : TypeId} {d : TypeDesc} {i : TypeInfo} (ht : P.underlying t = some d) (hi : P.info? t = some i) {b base : Nat} {e : List AV} {off : Nat} {x : AV}
    (hc : ∀ (k : Nat) (c : AV), e[k]? = some c → ∃ u, w.cell? ⟨b, base + k, none⟩ = some u ∧ Rep m n I w c u) (hg : getCells (isAggD d) i.size e off = some x) :
    ∃ u, (loadVar t ⟨b, base + off, none⟩).run P w = .ok u w ∧ Rep m n I w x u := by
  have hagg : (isAgg t).run P w = .ok (isAggD d) w := by
    unfold isAgg
    rw [Sem.run_bind, run_underlying ht w]
    cases d <;> rfl
  have hall : ∀ k, ∃ u, ∀ c, e[k]? = some c → w.cell? ⟨b, base + k, none⟩ = some u ∧ Rep m n I w c u := fun k => by
    cases hk : e[k]? with
    | none => exact ⟨undef, fun c h => by cases h⟩
    | some c => obtain ⟨u, h1, h2⟩ := hc k c hk; exact ⟨u, fun c' h => by cases h; exact ⟨h1, h2⟩⟩
  cases hA : isAggD d with
  | false =>
    rw [hA] at hg
    simp only [getCells, Bool.false_eq_true, if_false] at hg
    obtain ⟨u, h1, h2⟩ := hc off x hg
    exact ⟨u, by simp [loadVar, hagg, hA, h1], h2⟩
  | true =>
    rw [hA] at hg
    simp only [getCells, if_true] at hg
    split at hg
    · rename_i hle
      cases hg
      obtain ⟨U, hU⟩ := Classical.axiomOfChoice hall
      have hl : (loadCells ⟨b, base + off, none⟩ ((List.range i.size).map fun j => U (off + j)).length).run P w = .ok ((List.range i.size).map fun j => U (off + j)).toArray w := by
        refine run_loadCells_list (P := P) w _ _ fun j v hv => ?_
        simp only [List.getElem?_map, Option.map_eq_some_iff] at hv
        obtain ⟨k, hk, rfl⟩ := hv
        have hj : j < i.size := by have := (List.getElem?_eq_some_iff.1 hk).1; simpa using this
        rw [List.getElem?_range hj] at hk
        cases hk
        have hlt : off + j < e.length := by omega
        rw [add_lit', Nat.add_assoc]
        exact (hU (off + j) e[off + j] (List.getElem?_eq_getElem hlt)).1
      simp only [List.length_map, List.length_range] at hl
      refine ⟨.agg ((List.range i.size).map fun j => U (off + j)).toArray, by simp [loadVar, hagg, hA, sizeOf, typeInfo, hi, hl], ?_⟩
      refine .agg _ _ (by simp; omega) fun j c u hj hu => ?_
      have hjs : j < i.size := by have := (List.getElem?_eq_some_iff.1 hj).1; simp at this; omega
      rw [List.getElem?_take_of_lt hjs, List.getElem?_drop] at hj
      simp [hjs] at hu
      subst hu
      exact (hU (off + j) c hj).2
    · cases hg

theorem ok_load (h : Rel I0 w0 m I s a w) {o : Oper} {t : TypeId} {d : TypeDesc} {i : TypeInfo} {x : Operand} {y : Opd} {v : AV} (ho : o.op = .load t x) (hx : compX x = some y) (ht : P.underlying t = some d) (hi : P.info? t = some i)
    (hv : (match s.ev y with
      | .ptr id off => match s.st[id]? with
        | some (.blk _ cs) => getCells (isAggD d) i.size cs off
        | _ => none
      | .rptr id k off => match s.st[id]? with
        | some (.row _ _ _ es) => match es[k]? with
          | some e => getCells (isAggD d) i.size e off
          | none => none
        | _ => none
      | .eptr es k off => match es[k]? with
        | some e => getCells (isAggD d) i.size e off
        | none => none
      | _ => none) = some v) : OpOk P I0 w0 o a w s v s.st := by
  have h1 := rep_compX h hx
  have run : ∀ (b off : Nat) (u : Value), a.eval x = .pointer (some ⟨b, off, none⟩) → (loadVar t ⟨b, off, none⟩).run P w = .ok u w → (execOp a.eval o).run P w = .ok (.value u) w := fun b off u he hl => by
    simp [execOp, ho, he, Instr.loadAt, Instr.sureAddr, hl]
  cases he : s.ev y <;> rw [he] at h1 hv <;> simp only [reduceCtorEq] at hv
  · rename_i id off
    split at hv
    · rename_i t' cs hst
      obtain ⟨_, _, _, us, hheap, hlen, hrep⟩ := h.obj id _ hst
      cases hq : a.eval x <;> rw [hq] at h1 <;> cases h1
      obtain ⟨u, hl, hu⟩ := load_core (P := P) (m := m) (n := s.st.length) (I := I) (w := w) ht hi (b := (m id).b) (base := 0) (e := cs) (off := off) (fun k c hk => by
        have hlt : k < us.size := by have := (List.getElem?_eq_some_iff.1 hk).1; omega
        refine ⟨us[k], ?_, hrep k c us[k] hk (Array.getElem?_eq_getElem hlt)⟩
        rw [Nat.zero_add, cell_of_row w _ _ us t' (0, 0) hheap]
        exact Array.getElem?_eq_getElem hlt) hv
      rw [Nat.zero_add] at hl
      exact OpOk.same h (run _ _ _ hq hl) hu
    · cases hv
  · rename_i id k off
    split at hv
    · rename_i fr t' sz es hst
      split at hv
      · rename_i e hes
        obtain ⟨_, hsz, hpos, hcap, _, hok, us, hheap, hlen, hrep⟩ := (h.obj id _ hst).resolve_left (fun hn => by rw [hn.2.2] at hes; simp at hes) |>.2
        cases hq : a.eval x <;> rw [hq] at h1 <;> cases h1
        have hk : k < es.length := (List.getElem?_eq_some_iff.1 hes).1
        have hel : e.length = sz := (hok e (List.mem_of_getElem? hes)).1
        obtain ⟨u, hl, hu⟩ := load_core (P := P) (m := m) (n := s.st.length) (I := I) (w := w) ht hi (b := (m id).b) (base := k * sz) (e := e) (off := off) (fun j c hj => by
          have hjl : j < sz := by have := (List.getElem?_eq_some_iff.1 hj).1; omega
          have hlt : k * sz + j < us.size := by
            have : (k + 1) * sz ≤ (m id).cap * sz := Nat.mul_le_mul_right _ (by omega)
            rw [Nat.add_mul] at this
            omega
          refine ⟨us[k * sz + j], ?_, hrep k e j c us[k * sz + j] hes hj (Array.getElem?_eq_getElem hlt)⟩
          rw [cell_of_row w _ _ us t' (0, 0) hheap]
          exact Array.getElem?_eq_getElem hlt) hv
        rw [← hsz] at hl
        exact OpOk.same h (run _ _ _ hq hl) hu
      · cases hv
    · cases hv
  · rename_i es k off
    split at hv
    · rename_i e hes
      cases hq : a.eval x <;> rw [hq] at h1 <;> cases h1
      rename_i b o' sz u hI hs hsz hcell hr
      obtain ⟨u', hl, hu⟩ := load_core (P := P) (m := m) (n := s.st.length) (I := I) (w := w) ht hi (b := b) (base := o' + k * sz) (e := e) (off := off) (fun j c hj =>
        ⟨u k j, by rw [Nat.add_assoc]; exact hcell k e j c hes hj, hr k e j c hes hj⟩) hv
      rw [Nat.add_assoc] at hl
      exact OpOk.same h (run _ _ _ hq hl) hu
    · cases hv

theorem ok_ia (h : Rel I0 w0 m I s a w) {o : Oper} {t e : TypeId} {i : TypeInfo} {x j : Operand} {y z : Opd} {v : AV} (ho : o.op = .indexAddr t x j) (hx : compX x = some y) (hj : compX j = some z) (ht : P.underlying t = some (.slice e)) (hi : P.info? e = some i)
    (hv : (match s.ev y, s.ev z with
      | .vs es, .v (.int _ n) => if 0 ≤ n ∧ n < es.length then (match es[n.toNat]? with
        | some e => if e.length = i.size then some (AV.eptr [e] 0 0) else none
        | none => none) else none
      | .own id off len, .v (.int _ n) => match s.st[id]? with
        | some (.row _ _ z _) => if 0 ≤ n ∧ n < len ∧ z = i.size then some (.rptr id (off + n.toNat) 0) else none
        | _ => none
      | _, _ => none) = some v) : OpOk P I0 w0 o a w s v s.st := by
  have h1 := rep_compX h hx
  have h2 := rep_compX h hj
  have run : ∀ (b off len c : Nat) (k : IntKind) (n : Int), a.eval x = .slice (some ⟨b, off, none⟩) len c → a.eval j = .int k n → 0 ≤ n → n < len → (execOp a.eval o).run P w = .ok (.value (.pointer (some ⟨b, off + n.toNat * i.size, none⟩))) w := fun b off len c k n he hj' h0 hlt => by
    simp [execOp, ho, he, hj', Instr.indexAt, asIntOf, run_underlying ht, sizeOf, typeInfo, hi, h0, hlt, add_lit']
  split at hv
  · rename_i es k n he hn
    rw [he] at h1
    rw [hn] at h2
    have hn' := h2.v_inv
    split at hv
    · rename_i hb
      split at hv
      · rename_i e' hes
        split at hv
        · rename_i hel
          cases hv
          cases hq : a.eval x <;> rw [hq] at h1 <;> cases h1
          · simp at hb; omega
          · rename_i b o' sz u hI hs hsz hcell hr hc
            have hsz' : i.size = sz := hel.symm.trans (hsz e' (List.mem_of_getElem? hes)).1
            refine OpOk.same h (run b o' es.length _ k n hq hn' hb.1 hb.2) ?_
            rw [hsz', show o' + n.toNat * sz = o' + n.toNat * sz + (0 * sz + 0) from by simp]
            refine .eptr [e'] 0 0 b (o' + n.toNat * sz) sz (fun _ j => u n.toNat j) hI hs (fun e he => ?_) (fun i e j x he hx => ?_) (fun i e j x he hx => ?_)
            · simp at he; subst he; exact hsz _ (List.mem_of_getElem? hes)
            · cases i with
              | zero =>
                simp at he
                subst he
                rw [show o' + n.toNat * sz + (0 * sz + j) = o' + (n.toNat * sz + j) from by omega]
                exact hcell _ _ j x hes hx
              | succ i => simp at he
            · cases i with
              | zero => simp at he; subst he; exact hr _ _ j x hes hx
              | succ i => simp at he
        · cases hv
      · cases hv
    · cases hv
  · rename_i id off len k n he hn
    rw [he] at h1
    rw [hn] at h2
    have hn' := h2.v_inv
    split at hv
    · rename_i fr t' sz es hst
      split at hv
      · rename_i hb
        cases hv
        generalize hq : a.eval x = u at h1
        cases h1 with
        | own _ _ _ hid hl hn =>
          rcases h.obj id _ hst with ⟨hnil, hcap, _⟩ | ⟨hnil, _, hsz, _⟩
          · omega
          · rw [Loc.sl_not hnil] at hq
            refine OpOk.same h (run _ _ len _ k n hq hn' hb.1 hb.2.1) ?_
            rw [hsz, hb.2.2, ← Nat.add_mul]
            have := Rep.rptr (m := m) (n := s.st.length) (I := I) (w := w) id (off + n.toNat) 0 hid
            rw [hsz, hb.2.2] at this
            exact this
      · cases hv
    · cases hv
  · cases hv

theorem ok_field (h : Rel I0 w0 m I s a w) {o : Oper} {t : TypeId} {x : Operand} {y : Opd} {f : Nat} {fs : Array Field} {fd : Field} {i : TypeInfo} {d : TypeDesc} {cs : List AV} {v : AV} (ho : o.op = .field t x f) (hx : compX x = some y) (ht : P.underlying t = some (.struct fs)) (hf : fs[f]? = some fd)
    (hi : P.info? fd.type = some i) (hd : P.underlying fd.type = some d) (hv : s.ev y = .agg cs) (hg : getCells (isAggD d) i.size cs fd.offset = some v) : OpOk P I0 w0 o a w s v s.st := by
  have h1 := rep_compX h hx
  rw [hv] at h1
  cases hq : a.eval x <;> rw [hq] at h1 <;> cases h1
  rename_i us hl hr
  have hagg : (isAgg fd.type).run P w = .ok (isAggD d) w := by
    unfold isAgg
    rw [Sem.run_bind, run_underlying hd w]
    cases d <;> rfl
  cases hA : isAggD d with
  | false =>
    rw [hA] at hg
    simp only [getCells, Bool.false_eq_true, if_false] at hg
    have hlt : fd.offset < us.size := by have := (List.getElem?_eq_some_iff.1 hg).1; omega
    refine OpOk.same h (u := us[fd.offset]) ?_ (hr _ _ _ hg (Array.getElem?_eq_getElem hlt))
    simp [execOp, ho, hq, Instr.field, run_underlying ht, hf, asAgg, part, hagg, hA, hlt]
  | true =>
    rw [hA] at hg
    simp only [getCells, if_true] at hg
    split at hg
    · rename_i hle
      cases hg
      refine OpOk.same h (u := .agg (us.extract fd.offset (fd.offset + i.size))) ?_ ?_
      · simp [execOp, ho, hq, Instr.field, run_underlying ht, hf, asAgg, part, hagg, hA, sizeOf, typeInfo, hi]
      · refine .agg _ _ (by simp; omega) fun j c u hj hu => ?_
        have hjs : j < i.size := by have := (List.getElem?_eq_some_iff.1 hj).1; simp at this; omega
        rw [List.getElem?_take_of_lt hjs, List.getElem?_drop] at hj
        rw [Array.getElem?_extract_of_lt (by omega)] at hu
        exact hr _ _ _ hj (by rw [← hu]; exact Array.getElem?_eq_getElem _)
    · cases hg

end
end Go.Am
