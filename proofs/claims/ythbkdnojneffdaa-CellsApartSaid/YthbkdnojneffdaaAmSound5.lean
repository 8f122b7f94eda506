/- The abstract machine: slices of slices, slice literals, append. -/
import Derived.Test.YthbkdnojneffdaaAmSound4
namespace Go.Am
open Go.RowKit

section
variable {P : Program} {I0 : Nat → Prop} {w0 : World} {m : LMap} {I : Nat → Prop} {s : AS} {a : Act} {w : World}

/-! ### x[l:h] -/

theorem run_sliceExpr {o : Oper} {t e : TypeId} {i : TypeInfo} {x : Operand} {lo hi : Option Operand} {A : Option Addr} {len cap : Nat} {l h : Int} (ho : o.op = .slice t x lo hi none) (ht : P.underlying t = some (.slice e)) (hi' : P.info? e = some i)
    (hx : a.eval x = .slice A len cap) (hlo : (lo = none ∧ l = 0) ∨ ∃ y k, lo = some y ∧ a.eval y = .int k l) (hhi : (hi = none ∧ h = len) ∨ ∃ y k, hi = some y ∧ a.eval y = .int k h) (h0 : 0 ≤ l) (h1 : l ≤ h) (h2 : h ≤ len) (hc : len ≤ cap) :
    (execOp a.eval o).run P w = .ok (.value (.slice (if cap = l.toNat then A else A.map (·.add (l.toNat * i.size))) (h.toNat - l.toNat) (cap - l.toNat))) w := by
  have hh : 0 ≤ h := by omega
  have hcap : h ≤ cap := by omega
  have hlh : l ≤ (h.toNat : Int) := by omega
  have hsize : (sizeOf e).run P w = .ok i.size w := by simp [sizeOf, typeInfo, hi']
  have hbound : (Instr.sliceBounds true len cap (lo.map a.eval) (hi.map a.eval) none).run P w = .ok (l.toNat, h.toNat, cap) w := by
    rcases hlo with ⟨rfl, rfl⟩ | ⟨y, k, rfl, hy⟩ <;> rcases hhi with ⟨rfl, rfl⟩ | ⟨y', k', rfl, hy'⟩
    · simp [Instr.sliceBounds]
    · simp [Instr.sliceBounds, Instr.sliceBound, asIntOf, hy', hh, hcap]
    · simp [Instr.sliceBounds, Instr.sliceBound, asIntOf, hy, h0, h1]
    · simp [Instr.sliceBounds, Instr.sliceBound, asIntOf, hy, hy', h0, hh, hcap]
      intro hlt
      omega
  simp [execOp, ho, Instr.sliceAt, Instr.slice, run_underlying ht, hx, hbound, hsize]

/-- What stands at an operand that may lack. -/
theorem opt_int (h : Rel I0 w0 m I s a w) {lo : Option Operand} {lo' : Option Opd} {l : Int} {n : Int} (hc : compOpt lo = some lo') (hl : optI s.ev lo' n = some l) :
    (lo = none ∧ l = n) ∨ ∃ y k, lo = some y ∧ a.eval y = .int k l := by
  cases lo with
  | none =>
    simp only [compOpt, Option.some.injEq] at hc
    subst hc
    simp [optI] at hl
    exact .inl ⟨rfl, hl.symm⟩
  | some y =>
    simp only [compOpt, Option.map_eq_some_iff] at hc
    obtain ⟨y', hy', rfl⟩ := hc
    have h1 := rep_compX h hy'
    simp only [optI] at hl
    split at hl
    · rename_i k n' he
      cases hl
      rw [he] at h1
      exact .inr ⟨y, k, rfl, h1.v_inv⟩
    · cases hl

theorem ok_slice_vs (h : Rel I0 w0 m I s a w) {o : Oper} {t e : TypeId} {i : TypeInfo} {x : Operand} {y : Opd} {lo hi : Option Operand} {l hh : Int} {es : List (List AV)} (ho : o.op = .slice t x lo hi none) (ht : P.underlying t = some (.slice e)) (hi' : P.info? e = some i) (hx : compX x = some y)
    (hv : s.ev y = .vs es) (hlo : (lo = none ∧ l = 0) ∨ ∃ y k, lo = some y ∧ a.eval y = .int k l) (hhi : (hi = none ∧ hh = es.length) ∨ ∃ y k, hi = some y ∧ a.eval y = .int k hh) (h0 : 0 ≤ l) (h1 : l ≤ hh) (h2 : hh ≤ es.length) (hall : (es.all fun e => e.length == i.size) = true) :
    OpOk P I0 w0 o a w s (.vs ((es.take hh.toNat).drop l.toNat)) s.st := by
  have hr := rep_compX h hx
  rw [hv] at hr
  cases hq : a.eval x <;> rw [hq] at hr <;> cases hr
  · have hrun := run_sliceExpr (P := P) (a := a) (w := w) (o := o) (h := hh) (l := l) ho ht hi' hq hlo hhi h0 h1 h2 (Nat.zero_le _)
    refine OpOk.same h hrun ?_
    simp at h2
    have e1 : hh.toNat - l.toNat = 0 := by omega
    rw [e1]
    simp
    exact .vs0 _ _
  · rename_i cap b o' sz u hI hs hsz hcell hr hc
    have hrun := run_sliceExpr (P := P) (a := a) (w := w) (o := o) (h := hh) (l := l) ho ht hi' hq hlo hhi h0 h1 h2 hc
    refine OpOk.same h hrun ?_
    have hlen : ((es.take hh.toNat).drop l.toNat).length = hh.toNat - l.toNat := by simp; omega
    by_cases he : hh.toNat - l.toNat = 0
    · rw [he]
      have : (es.take hh.toNat).drop l.toNat = [] := List.eq_nil_of_length_eq_zero (by omega)
      rw [this]
      exact .vs0 _ _
    · rw [if_neg (by omega)]
      have hse : i.size = sz := by
        cases es with
        | nil => simp at h2; omega
        | cons e0 es =>
          have h3 := List.all_eq_true.1 hall e0 (by simp)
          have h4 := (hsz e0 (by simp)).1
          simp at h3
          omega
      rw [hse]
      simp only [Option.map_some, add_lit']
      have key : ∀ (i : Nat) (e : List AV), ((es.take hh.toNat).drop l.toNat)[i]? = some e → es[l.toNat + i]? = some e := fun i e hi => by
        have hlt : i < hh.toNat - l.toNat := by have := (List.getElem?_eq_some_iff.1 hi).1; omega
        rw [List.getElem?_drop, List.getElem?_take_of_lt (by omega)] at hi
        exact hi
      have := Rep.vs (m := m) (n := s.st.length) (I := I) (w := w) ((es.take hh.toNat).drop l.toNat) b (o' + l.toNat * sz) (cap - l.toNat) sz (fun i j => u (l.toNat + i) j) hI (by omega) hs
        (fun e he => hsz e (List.mem_of_mem_take (List.mem_of_mem_drop he)))
        (fun i e j x he hx => by
          rw [show o' + l.toNat * sz + (i * sz + j) = o' + ((l.toNat + i) * sz + j) from by rw [Nat.add_mul]; omega]
          exact hcell _ e j x (key i e he) hx)
        (fun i e j x he hx => hr _ e j x (key i e he) hx)
      rw [hlen] at this
      exact this

theorem ok_slice_own (h : Rel I0 w0 m I s a w) {o : Oper} {t e : TypeId} {i : TypeInfo} {x : Operand} {y : Opd} {lo hi : Option Operand} {l hh : Int} {id off len : Nat} {f : Bool} {t' : TypeId} {es : List (List AV)} (ho : o.op = .slice t x lo hi none) (ht : P.underlying t = some (.slice e)) (hi' : P.info? e = some i) (hx : compX x = some y)
    (hv : s.ev y = .own id off len) (hst : s.st[id]? = some (.row f t' i.size es)) (hlo : (lo = none ∧ l = 0) ∨ ∃ y k, lo = some y ∧ a.eval y = .int k l) (hhi : (hi = none ∧ hh = len) ∨ ∃ y k, hi = some y ∧ a.eval y = .int k hh) (h0 : 0 ≤ l) (h1 : l ≤ hh) (h2 : hh ≤ len) :
    OpOk P I0 w0 o a w s (if l = hh ∧ l ≠ 0 then .vs [] else .own id (off + l.toNat) (hh.toNat - l.toNat)) s.st := by
  have hr := rep_compX h hx
  rw [hv] at hr
  generalize hq : a.eval x = u at hr
  cases hr with
  | own _ _ _ hid hl hn =>
    cases hnil : (m id).nil with
    | true =>
      have hcap := hn hnil
      have h00 : len = 0 ∧ off = 0 := by omega
      obtain ⟨rfl, rfl⟩ := h00
      rw [Loc.sl_nil hnil] at hq
      have hl0 : l = 0 := by omega
      have hh0 : hh = 0 := by omega
      subst hl0 hh0
      have hrun := run_sliceExpr (P := P) (a := a) (w := w) (o := o) (h := 0) (l := 0) ho ht hi' hq hlo (by simpa using hhi) (by omega) (by omega) (by simp) (by simp)
      refine OpOk.same h hrun ?_
      have := Rep.own (m := m) (n := s.st.length) (I := I) (w := w) id 0 0 hid (by omega) hn
      rw [Loc.sl_nil hnil] at this
      simpa using this
    | false =>
      rw [Loc.sl_not hnil] at hq
      have hrun := run_sliceExpr (P := P) (a := a) (w := w) (o := o) (h := hh) (l := l) ho ht hi' hq hlo hhi h0 h1 h2 (by omega)
      refine OpOk.same h hrun ?_
      have hmsz : (m id).sz = i.size := by
        rcases h.obj id _ hst with ⟨h9, _⟩ | ⟨_, _, h9, _⟩
        · rw [hnil] at h9; cases h9
        · exact h9
      split
      · rename_i hc
        have : hh.toNat - l.toNat = 0 := by omega
        rw [this]
        exact .vs0 _ _
      · rename_i hc
        have := Rep.own (m := m) (n := s.st.length) (I := I) (w := w) id (off + l.toNat) (hh.toNat - l.toNat) hid (by omega) hn
        rw [Loc.sl_not hnil, Nat.sub_add_eq, Nat.add_mul] at this
        by_cases hl0 : l = 0
        · subst hl0
          simp only [Int.toNat_zero, Nat.zero_mul, Nat.add_zero, Nat.sub_zero] at this ⊢
          split
          · exact this
          · simpa [Addr.add] using this
        · rw [if_neg (by omega)]
          simp only [Option.map_some, add_lit']
          rw [hmsz] at this
          rw [hmsz]
          exact this

theorem ok_slice_nils (h : Rel I0 w0 m I s a w) {o : Oper} {t e : TypeId} {i : TypeInfo} {x : Operand} {y : Opd} {lo hi : Option Operand} (ho : o.op = .slice t x lo hi none) (ht : P.underlying t = some (.slice e)) (hi' : P.info? e = some i) (hx : compX x = some y)
    (hv : s.ev y = .nils) (hlo : (lo = none ∧ (0 : Int) = 0) ∨ ∃ y k, lo = some y ∧ a.eval y = .int k 0) (hhi : (hi = none ∧ (0 : Int) = 0) ∨ ∃ y k, hi = some y ∧ a.eval y = .int k 0) :
    OpOk P I0 w0 o a w s .nils s.st := by
  have hr := rep_compX h hx
  rw [hv] at hr
  cases hq : a.eval x <;> rw [hq] at hr <;> cases hr
  have hrun := run_sliceExpr (P := P) (a := a) (w := w) (o := o) (h := 0) (l := 0) ho ht hi' hq hlo (by simpa using hhi) (by omega) (by omega) (by simp) (by simp)
  refine OpOk.same h hrun ?_
  simp
  exact .nils

/-! ### Slice literals -/

/-- Elements that lie in a flat row. -/
def RowRep (m : LMap) (n : Nat) (I : Nat → Prop) (w : World) (sz : Nat) (es : List (List AV)) (us : Array Value) : Prop :=
  ∀ (i : Nat) (e : List AV) (j : Nat) (x : AV) (u : Value), es[i]? = some e → e[j]? = some x → us[i * sz + j]? = some u → Rep m n I w x u

theorem parts_rep (h : Rel I0 w0 m I s a w) {sz : Nat} {I1 : Nat → Prop} (hI : ∀ b, I b → I1 b) : ∀ (parts : List (Nat × Operand)) (ps : List (Nat × Opd)) (es0 es : List (List AV)) (ids : List Nat) (us : Array Value), compParts parts = some ps → partsA s.ev s.st sz es0 ps = some (es, ids) →
    (∀ b, rowsOf m s.st ids b → I1 b) → us.size = es0.length * sz → (∀ e ∈ es0, EOk sz e) → RowRep m s.st.length I1 w sz es0 us →
    ∃ us', Instr.fill (fun i => some (i * sz, sz)) us (parts.map fun p => (p.1, a.eval p.2)) = some us' ∧ us'.size = es.length * sz ∧ es.length = es0.length ∧ (∀ e ∈ es, EOk sz e) ∧ RowRep m s.st.length I1 w sz es us'
  | [], ps, es0, es, ids, us, hc, hf, _, hl, hok, hr => by
    simp [compParts] at hc
    subst hc
    simp [partsA] at hf
    obtain ⟨rfl, rfl⟩ := hf
    exact ⟨us, rfl, hl, rfl, hok, hr⟩
  | (i, x) :: r, ps, es0, es, ids, us, hc, hf, hI1, hl, hok, hr => by
    simp only [compParts] at hc
    split at hc
    · rename_i y ys hy hys
      cases hc
      simp only [partsA] at hf
      split at hf
      · rename_i cs hcs
        split at hf
        · rename_i ds hds
          split at hf
          · rename_i hb
            simp only [Option.map_eq_some_iff] at hf
            obtain ⟨⟨es', ids'⟩, hrec, he⟩ := hf
            cases he
            have hI2 : ∀ b, rowsOf m s.st (cs.flatMap idC) b → I1 b := fun b ⟨id, hid, rest⟩ => hI1 b ⟨id, List.mem_append.2 (.inl hid), rest⟩
            have hI3 : ∀ b, rowsOf m s.st ids' b → I1 b := fun b ⟨id, hid, rest⟩ => hI1 b ⟨id, List.mem_append.2 (.inr hid), rest⟩
            obtain ⟨hdl, hdr⟩ := rep_reifyL h hI hds hI2
            obtain ⟨hsz, hcr⟩ := (rep_compX h hy).cells hcs
            have hkey : ∀ (j : Nat) (d : AV) (u : Value), ds[j]? = some d → (a.eval x).cells[j]? = some u → Rep m s.st.length I1 w d u ∧ Pure d ∧ d.one = true := fun j d u hd hu => by
              have hj : j < cs.length := by have := (List.getElem?_eq_some_iff.1 hd).1; omega
              exact hdr j cs[j] d u (List.getElem?_eq_getElem hj) hd (hcr j cs[j] u (List.getElem?_eq_getElem hj) hu)
            have hEOk : EOk sz ds := ⟨hb.1, fun d hd => by
              obtain ⟨j, hj, rfl⟩ := List.mem_iff_getElem.1 hd
              have hju : j < (a.eval x).cells.size := by omega
              have := hkey j ds[j] (a.eval x).cells[j] (List.getElem?_eq_getElem hj) (Array.getElem?_eq_getElem hju)
              exact ⟨this.2.2, this.2.1⟩⟩
            have hcsz : (a.eval x).cells.size = sz := by omega
            have hle : i * sz + (a.eval x).cells.size ≤ us.size := by
              have : (i + 1) * sz ≤ es0.length * sz := Nat.mul_le_mul_right _ (by omega)
              rw [Nat.add_mul] at this
              omega
            have step : Instr.fill (fun i => some (i * sz, sz)) us (((i, x) :: r).map fun p => (p.1, a.eval p.2)) = Instr.fill (fun i => some (i * sz, sz)) ((a.eval x).cells.zipIdx.foldl (fun cs (p' : Value × Nat) => cs.setIfInBounds (i * sz + p'.2) p'.1) us) (r.map fun p => (p.1, a.eval p.2)) := by
              simp only [List.map_cons, Instr.fill]
              rw [if_neg]
              simp
              omega
            rw [step]
            obtain ⟨us', g1, g2, g3, g4, g5⟩ := parts_rep h hI r ys (es0.set i ds) es' ids' ((a.eval x).cells.zipIdx.foldl (fun cs (p' : Value × Nat) => cs.setIfInBounds (i * sz + p'.2) p'.1) us) hys hrec hI3 (by rw [cells_set_size, List.length_set, hl]) (fun e he => by
              rcases List.mem_or_eq_of_mem_set he with he | rfl
              · exact hok e he
              · exact hEOk) (fun k e j d u hk hj hu => by
              rw [List.getElem?_set] at hk
              have hjs : ∀ (hE : EOk sz e), j < sz := fun hE => by have := (List.getElem?_eq_some_iff.1 hj).1; have := hE.1; omega
              rw [cells_set_get _ _ _ _ hle, hcsz] at hu
              by_cases hik : i = k
              · subst hik
                rw [if_pos rfl, if_pos hb.2] at hk
                cases hk
                have := hjs hEOk
                rw [if_pos (by omega)] at hu
                rw [Nat.add_sub_cancel_left] at hu
                exact (hkey j d u hj hu).1
              · rw [if_neg hik] at hk
                have hj' := hjs (hok e (List.mem_of_getElem? hk))
                rw [if_neg (fun hh => by
                  have hj2 : k * sz + j - i * sz < sz := by omega
                  have := (idx_inj (i := k) (i' := i) hj' hj2 (by omega)).1
                  exact hik this.symm)] at hu
                exact hr k e j d u hk hj hu)
            exact ⟨us', g1, g2, by rw [g3, List.length_set], g4, g5⟩
          · cases hf
        · cases hf
      · cases hf
    · cases hc

theorem ok_bslice (h : Rel I0 w0 m I s a w) {o : Oper} {t e : TypeId} {i : TypeInfo} {len : Nat} {z : Value} {parts : Array (Nat × Operand)} {ps : List (Nat × Opd)} {es : List (List AV)} {ids : List Nat} (ho : o.op = .buildSlice t len parts) (ht : P.underlying t = some (.slice e)) (hi : P.info? e = some i)
    (hz : i.zero = some z) (hlen : len * i.size ≤ 65536) (hpos : 0 < i.size) (hzs : z.cells.size = i.size) (hone : (z.cells.all (·.oneCell')) = true) (hps : compParts parts.toList = some ps)
    (hpa : partsA s.ev s.st i.size (List.replicate len (z.cells.toList.map ofCellR)) ps = some (es, ids)) :
    OpOk P I0 w0 o a w s (.own s.st.length 0 len) (freeze ids s.st ++ [.row true e i.size es]) := by
  have hf := h.freeze ids
  have hst : (freeze ids s.st).length = s.st.length := by simp [freeze]
  let I1 : Nat → Prop := fun b => I b ∨ rowsOf m s.st ids b
  have hzE : EOk i.size (z.cells.toList.map ofCellR) := ⟨by simp [hzs], fun c hc => by
    simp only [List.mem_map] at hc
    obtain ⟨u, hu, rfl⟩ := hc
    have h1 : u.oneCell' = true := by simpa using (Array.all_eq_true_iff_forall_mem.1 hone) u (by simpa using hu)
    unfold ofCellR
    split
    · exact ⟨rfl, .vs _ (fun e he => by simp at he)⟩
    · refine ⟨?_, .v _⟩
      cases u <;> simp_all [AV.one, Value.oneCell']⟩
  let us0 : Array Value := (Array.range (len * i.size)).map (z.cells[· % z.cells.size]!)
  have hus0 : ∀ k j, j < i.size → k < len → us0[k * i.size + j]? = z.cells[j]? := fun k j hj hk => by
    have hlt : k * i.size + j < len * i.size := idx_lt hk hj
    have hj' : j < z.cells.size := by omega
    show ((Array.range (len * i.size)).map (z.cells[· % z.cells.size]!))[k * i.size + j]? = _
    rw [Array.getElem?_map, Array.getElem?_range, if_pos hlt]
    simp only [Option.map_some, hzs]
    rw [Nat.mul_comm k, Nat.mul_add_mod, Nat.mod_eq_of_lt hj, getElem!_pos z.cells j hj', Array.getElem?_eq_getElem hj']
  obtain ⟨us', g1, g2, g3, g4, g5⟩ := parts_rep h (sz := i.size) (I1 := I1) (fun _ hb => .inl hb) parts.toList ps _ es ids us0 hps hpa (fun _ hb => .inr hb) (by show (Array.map _ _).size = _; simp) (fun e he => by rw [List.eq_of_mem_replicate he]; exact hzE)
    (fun k e j x u hk hj hu => by
      have hk' : k < len := by have := (List.getElem?_eq_some_iff.1 hk).1; simpa using this
      have he : e = z.cells.toList.map ofCellR := List.eq_of_mem_replicate (List.mem_of_getElem? hk)
      subst he
      have hj' : j < i.size := by have := (List.getElem?_eq_some_iff.1 hj).1; simp at this; omega
      rw [hus0 k j hj' hk'] at hu
      simp only [List.getElem?_map, Array.getElem?_toList, hu, Option.map_some, Option.some.injEq] at hj
      subst hj
      unfold ofCellR
      split
      · exact .vs0 _ _
      · exact .v _)
  have hesl : es.length = len := by rw [g3]; simp
  have hb : Below w.heap.size w (w.alloc (.cells us' e)) := (Below.refl _ _).alloc (Nat.le_refl _) _
  have hnI : ¬ I1 w.heap.size := fun hi => Nat.lt_irrefl _ (hf.imm _ hi)
  have hmax : len ≤ maxLen := by
    have : len * 1 ≤ len * i.size := Nat.mul_le_mul_left _ hpos
    simp only [maxLen]
    omega
  have hrel := hf.more (w' := w.alloc (.cells us' e)) (I' := I1) ⟨w.heap.size, len, i.size, false⟩ (.row true e i.size es) hb (fun _ hb' => hb') (fun _ hb' => .inl hb') (fun _ _ => Nat.le_refl _) (by
    unfold Obj.ok
    rw [updM_eq]
    refine .inr ⟨rfl, by rw [if_pos rfl]; exact ⟨h.bel.size, hnI⟩, rfl, hpos, by simp [hesl], hmax, g4, us', heap_alloc_new w _, by rw [g2, hesl], fun k e' j x u hk hj hu => ?_⟩
    refine (g5 k e' j x u hk hj hu).mono (by simp [hst]) (fun q hq => ?_) (fun _ hb' => hb') (fun b hb' => hb.block b (hf.imm b hb'))
    rw [hst]
    exact updM_lt hq)
  rw [hst] at hrel
  refine ⟨_, .slice (some ⟨w.heap.size, 0, none⟩) len len, w.alloc (.cells us' e), _, I1, ?_, .inl rfl, hrel, ?_⟩
  · have hroom : ¬ (len * i.size > 2 ^ 24) := by omega
    by_cases h0 : len * i.size = 0
    · have e1 : ∀ f : Nat → Value, Array.map f (Array.range 0) = #[] := fun _ => Array.eq_empty_of_size_eq_zero (by simp)
      have e0 : us0 = #[] := by show Array.map _ _ = _; rw [h0]; exact e1 _
      rw [e0] at g1
      simp only [execOp, ho, Instr.buildSlice, Sem.run_bind, run_underlying ht, Result.andThen_ok, sizeOf, typeInfo, run_program, hi, Sem.run_pure, if_neg hroom, h0, if_true, Array.toList_map, e1]
      simp [h0, g1, newRow]
    · simp only [execOp, ho, Instr.buildSlice, Sem.run_bind, run_underlying ht, Result.andThen_ok, sizeOf, typeInfo, run_program, hi, Sem.run_pure, if_neg hroom, if_neg h0, zeroValue, hz, Array.toList_map]
      simp [hi, hz, newRow, g1, us0] at g1 ⊢
  · have := Rep.own (m := updM m s.st.length ⟨w.heap.size, len, i.size, false⟩) (n := (freeze ids s.st ++ [AObj.row true e i.size es]).length) (I := I1) (w := w.alloc (.cells us' e)) s.st.length 0 len (by simp [hst]) (by rw [updM_eq]; simp) (by rw [updM_eq]; simp)
    rw [updM_eq, Loc.sl_not rfl] at this
    simpa using this

end
end Go.Am
