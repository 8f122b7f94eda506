/- The abstract machine: each operation does in the program what its abstract form says. -/
import Derived.Test.YthbkdnojneffdaaAmCode
namespace Go.Am
open Go.RowKit

section
variable {P : Program} {I0 : Nat → Prop} {w0 : World} {m : LMap} {I : Nat → Prop} {s : AS} {a : Act} {w : World}

theorem rep_ofCell (n : Nat) (u : Value) : Rep m n I w (ofCell u) u := by
  unfold ofCell
  split
  · exact .nils
  · exact .v _

theorem rep_ofVal (n : Nat) (u : Value) : Rep m n I w (ofVal u) u := by
  unfold ofVal
  split
  · rename_i cs
    refine .agg _ _ (by simp) fun i c v hc hv => ?_
    simp only [List.getElem?_map, Array.getElem?_toList, hv, Option.map_some, Option.some.injEq] at hc
    subst hc
    exact rep_ofCell n v
  · exact rep_ofCell n u

theorem rep_compX (h : Rel I0 w0 m I s a w) {x : Operand} {y : Opd} (hx : compX x = some y) : Rep m s.st.length I w (s.ev y) (a.eval x) := by
  cases x <;> simp only [compX, Option.some.injEq, reduceCtorEq] at hx
  · subst hx; simpa [AS.ev, Act.eval] using h.eval _
  · subst hx; exact rep_ofVal _ _
  · subst hx
    exact .fn _ [] #[] rfl (fun i c u hc _ => by simp at hc)

/-- The operation runs, and leaves what its abstract form says. -/
def OpOk (P : Program) (I0 : Nat → Prop) (w0 : World) (o : Oper) (a : Act) (w : World) (s : AS) (x : AV) (st' : Store) : Prop :=
  ∃ nx u w' m' I', (execOp a.eval o).run P w = .ok nx w' ∧ (nx = .value u ∨ (nx = .skip ∧ u = undef)) ∧ Rel I0 w0 m' I' { s with st := st' } a w' ∧ Rep m' st'.length I' w' x u

theorem OpOk.same {o : Oper} {x : AV} {u : Value} (h : Rel I0 w0 m I s a w) (hrun : (execOp a.eval o).run P w = .ok (.value u) w) (hx : Rep m s.st.length I w x u) : OpOk P I0 w0 o a w s x s.st :=
  ⟨_, u, w, m, I, hrun, .inl rfl, h, hx⟩

theorem Rep.bool_inv {n : Nat} {b : Bool} {u : Value} (h : Rep m n I w (.v (.bool b)) u) : u = .bool b := by cases h; rfl
theorem Rep.v_inv {n : Nat} {x u : Value} (h : Rep m n I w (.v x) u) : u = x := by cases h; rfl

theorem ok_mov (h : Rel I0 w0 m I s a w) {o : Oper} {x : Operand} {y : Opd} (ho : o.op = .move x ∨ o.op = .assign x) (hx : compX x = some y) : OpOk P I0 w0 o a w s (s.ev y) s.st := by
  refine OpOk.same h (u := a.eval x) ?_ (rep_compX h hx)
  rcases ho with ho | ho <;> simp [execOp, ho]

theorem ok_pick (h : Rel I0 w0 m I s a w) {o : Oper} {c x y : Operand} {c' x' y' : Opd} {t : Bool} (ho : o.op = .pick c x y) (hc : compX c = some c') (hx : compX x = some x') (hy : compX y = some y')
    (hv : s.ev c' = .v (.bool t)) : OpOk P I0 w0 o a w s (cond t (s.ev x') (s.ev y')) s.st := by
  have h1 := rep_compX h hc
  rw [hv] at h1
  have h1 := h1.bool_inv
  refine OpOk.same h (u := if t then a.eval x else a.eval y) ?_ ?_
  · simp [execOp, ho, h1, asBool]
  · cases t
    · exact rep_compX h hy
    · exact rep_compX h hx

/-- A new block with cells. -/
theorem ok_newblk (h : Rel I0 w0 m I s a w) {t : TypeId} {cs : List AV} {us : Array Value} (hl : us.size = cs.length)
    (hr : ∀ (i : Nat) (c : AV) (u : Value), cs[i]? = some c → us[i]? = some u → Rep m s.st.length I w c u) :
    ∃ m', Rel I0 w0 m' I { s with st := s.st ++ [.blk t cs] } a (w.alloc (.cells us t)) ∧ Rep m' (s.st ++ [AObj.blk t cs]).length I (w.alloc (.cells us t)) (.ptr s.st.length 0) (.pointer (some ⟨w.heap.size, 0, none⟩)) := by
  have hb : Below w.heap.size w (w.alloc (.cells us t)) := (Below.refl _ _).alloc (Nat.le_refl _) _
  have hnI : ¬ I w.heap.size := fun hi => Nat.lt_irrefl _ (h.imm _ hi)
  have hw : ∀ b, I b → (w.alloc (.cells us t)).heap[b]? = w.heap[b]? := fun b hb' => hb.block b (h.imm b hb')
  refine ⟨updM m s.st.length ⟨w.heap.size, 0, 0, false⟩, ?_, ?_⟩
  · refine h.more ⟨w.heap.size, 0, 0, false⟩ _ hb (fun _ hb' => hb') (fun _ hb' => .inl hb') (fun _ _ => Nat.le_refl _) ?_
    unfold Obj.ok
    rw [updM_eq]
    exact ⟨rfl, h.bel.size, hnI, us, heap_alloc_new w _, hl, fun i c u hc hu => (hr i c u hc hu).mono (by omega) (fun k hk => updM_lt hk) (fun _ hb' => hb') hw⟩
  · have := Rep.ptr (m := updM m s.st.length ⟨w.heap.size, 0, 0, false⟩) (n := (s.st ++ [AObj.blk t cs]).length) (I := I) (w := w.alloc (.cells us t)) s.st.length 0 (by simp)
    rwa [updM_eq] at this

theorem ok_new (h : Rel I0 w0 m I s a w) {o : Oper} {t : TypeId} {i : TypeInfo} {z : Value} (ho : o.op = .alloc t) (hi : P.info? t = some i) (hz : i.zero = some z) :
    OpOk P I0 w0 o a w s (.ptr s.st.length 0) (s.st ++ [.blk t (z.cells.toList.map ofCell)]) := by
  obtain ⟨m', h1, h2⟩ := ok_newblk h (t := t) (cs := z.cells.toList.map ofCell) (us := z.cells) (by simp) (fun i c u hc hu => by
    simp only [List.getElem?_map, Array.getElem?_toList, hu, Option.map_some, Option.some.injEq] at hc
    subst hc
    exact rep_ofCell _ u)
  refine ⟨_, _, _, m', I, ?_, .inl rfl, h1, h2⟩
  simp [execOp, ho, Instr.alloc, zeroValue, typeInfo, hi, hz, newVar, newRow]

theorem ok_box (h : Rel I0 w0 m I s a w) {o : Oper} {t : TypeId} {x : Operand} {y : Opd} {cs : List AV} (ho : o.op = .box t x) (hx : compX x = some y) (hc : (s.ev y).cells? = some cs) :
    OpOk P I0 w0 o a w s (.ptr s.st.length 0) (s.st ++ [.blk t cs]) := by
  obtain ⟨hl, hr⟩ := (rep_compX h hx).cells hc
  obtain ⟨m', h1, h2⟩ := ok_newblk h (t := t) (cs := cs) (us := (a.eval x).cells) hl hr
  refine ⟨_, _, _, m', I, ?_, .inl rfl, h1, h2⟩
  simp [execOp, ho, Instr.box, newVar, newRow]

theorem ok_un (h : Rel I0 w0 m I s a w) {o : Oper} {op : UnOp} {t : TypeId} {x : Operand} {y : Opd} {b v : Value} (ho : o.op = .unOp op t x) (hx : compX x = some y) (hv : s.ev y = .v b) (hp : pureRun P (Op.unary op b) = some v) :
    OpOk P I0 w0 o a w s (.v v) s.st := by
  have h1 := rep_compX h hx
  rw [hv] at h1
  refine OpOk.same h (u := v) ?_ (.v _)
  simp [execOp, ho, h1.v_inv, run_of_pure hp w]

theorem eqGuard_scalar {op : BinOp} {t : TypeId} {x y : Operand} {u v : Value} (hu : scalar u = true) : (eqGuard op t x y u v).run P w = .ok () w := by
  unfold eqGuard
  cases u <;> simp [scalar] at hu <;> cases op <;> simp

theorem ok_bin (h : Rel I0 w0 m I s a w) {o : Oper} {op : BinOp} {t t' : TypeId} {x y : Operand} {x' y' : Opd} {u v r : Value} (ho : o.op = .binOp op t x y t') (hx : compX x = some x') (hy : compX y = some y')
    (hu : s.ev x' = .v u) (hv : s.ev y' = .v v) (hs : scalar u = true) (hp : pureRun P (Go.binOp op t u v) = some r) : OpOk P I0 w0 o a w s (.v r) s.st := by
  have h1 := rep_compX h hx
  have h2 := rep_compX h hy
  rw [hu] at h1
  rw [hv] at h2
  refine OpOk.same h (u := r) ?_ (.v _)
  simp [execOp, ho, h1.v_inv, h2.v_inv, eqGuard_scalar hs, run_of_pure hp w]

theorem run_equal_bool {t : TypeId} (ht : P.underlying t = some .bool) (u v : Bool) : (Op.equal t (.bool u) (.bool v)).run P w = .ok (u == v) w := by
  have : ∀ d : Nat, (Op.equalIn (d + 1) t (.bool u) (.bool v)).run P w = .ok (u == v) w := fun d => by
    unfold Op.equalIn
    rw [Sem.run_bind, run_underlying ht w]
    rfl
  exact this 9999

theorem ok_eqb (h : Rel I0 w0 m I s a w) {o : Oper} {op : BinOp} {t t' : TypeId} {x y : Operand} {x' y' : Opd} {u v : Bool} {neg : Bool} (ho : o.op = .binOp op t x y t') (hx : compX x = some x') (hy : compX y = some y')
    (ht : P.underlying t = some .bool) (hop : op = if neg then .neq else .eql) (hu : s.ev x' = .v (.bool u)) (hv : s.ev y' = .v (.bool v)) : OpOk P I0 w0 o a w s (.v (.bool (if neg then u != v else u == v))) s.st := by
  have h1 := rep_compX h hx
  have h2 := rep_compX h hy
  rw [hu] at h1
  rw [hv] at h2
  refine OpOk.same h (u := .bool (if neg then u != v else u == v)) ?_ (.v _)
  subst hop
  have hq := run_equal_bool (w := w) ht u v
  have hg : ∀ op, (eqGuard op t x y (.bool u) (.bool v)).run P w = .ok () w := fun op => eqGuard_scalar rfl
  cases neg
  · simp only [execOp, ho, h1.v_inv, h2.v_inv, Sem.run_bind, hg, Result.andThen_ok]
    simp [Go.binOp, hq]
  · simp only [execOp, ho, h1.v_inv, h2.v_inv, Sem.run_bind, hg, Result.andThen_ok]
    simp [Go.binOp, hq, bne]

theorem vals?_rep {n : Nat} : ∀ {cs : List AV} {us : List Value}, vals? cs = some us → ∀ {vs : Array Value}, vs.size = cs.length → (∀ (i : Nat) (c : AV) (u : Value), cs[i]? = some c → vs[i]? = some u → Rep m n I w c u) → vs = us.toArray
  | [], us, h, vs, hl, _ => by
    simp [vals?] at h
    subst h
    exact Array.eq_empty_of_size_eq_zero (by simpa using hl)
  | c :: r, us, h, vs, hl, hr => by
    cases c <;> simp only [vals?, reduceCtorEq, Option.map_eq_some_iff] at h
    rename_i x
    obtain ⟨us', h1, rfl⟩ := h
    obtain ⟨l⟩ := vs
    cases l with
    | nil => simp at hl
    | cons y l =>
      have h0 := hr 0 (.v x) y (by simp) (by simp)
      have := vals?_rep h1 (vs := ⟨l⟩) (by simpa using hl) (fun i c u hc hu => hr (i + 1) c u (by simpa using hc) (by simpa using hu))
      have e : l = us' := by simpa using congrArg Array.toList this
      rw [h0.v_inv, e]

theorem ok_eqs (h : Rel I0 w0 m I s a w) {o : Oper} {op : BinOp} {t t' : TypeId} {x y : Operand} {x' y' : Opd} {cs ds : List AV} {us vs : List Value} {neg b : Bool} (ho : o.op = .binOp op t x y t') (hx : compX x = some x') (hy : compX y = some y')
    (hop : op = if neg then .neq else .eql) (hg : P.eqGuardType P.depth t = false) (hu : s.ev x' = .agg cs) (hv : s.ev y' = .agg ds) (hus : vals? cs = some us) (hvs : vals? ds = some vs) (hp : pureRun P (Op.equal t (.agg us.toArray) (.agg vs.toArray)) = some b) :
    OpOk P I0 w0 o a w s (.v (.bool (if neg then !b else b))) s.st := by
  have h1 := rep_compX h hx
  have h2 := rep_compX h hy
  rw [hu] at h1
  rw [hv] at h2
  cases h1e : a.eval x with
  | agg c1 =>
    cases h2e : a.eval y with
    | agg c2 =>
      rw [h1e] at h1
      rw [h2e] at h2
      cases h1 with
      | agg _ _ hl1 hr1 =>
        cases h2 with
        | agg _ _ hl2 hr2 =>
          have e1 := vals?_rep hus hl1 hr1
          have e2 := vals?_rep hvs hl2 hr2
          subst e1 e2
          refine OpOk.same h (u := .bool (if neg then !b else b)) ?_ (.v _)
          have hr := run_of_pure hp w
          subst hop
          cases neg <;> simp [execOp, ho, h1e, h2e, eqGuard, hg, Go.binOp, hr]
    | _ => rw [h2e] at h2; cases h2
  | _ => rw [h1e] at h1; cases h1

theorem ok_conv (h : Rel I0 w0 m I s a w) {o : Oper} {src dst : TypeId} {k k' k'' : IntKind} {x : Operand} {y : Opd} {n : Int} (ho : o.op = .convert src dst x) (hx : compX x = some y) (hs : P.underlying src = some (.int k')) (hd : P.underlying dst = some (.int k))
    (hv : s.ev y = .v (.int k'' n)) : OpOk P I0 w0 o a w s (.v (.int k (k.wrap n))) s.st := by
  have h1 := rep_compX h hx
  rw [hv] at h1
  refine OpOk.same h (u := .int k (k.wrap n)) ?_ (.v _)
  simp [execOp, ho, h1.v_inv, convert, run_underlying hs, run_underlying hd, Conv.intToInt]

theorem ok_fa (h : Rel I0 w0 m I s a w) {o : Oper} {t : TypeId} {x : Operand} {y : Opd} {f : Nat} {fs : Array Field} {fd : Field} {i : TypeInfo} (ho : o.op = .fieldAddr t x f) (hx : compX x = some y) (ht : P.underlying t = some (.struct fs)) (hf : fs[f]? = some fd)
    (hi : P.info? fd.type = some i) (hs : i.size ≠ 0) {v : AV} (hv : (match s.ev y with | .ptr id o => some (AV.ptr id (o + fd.offset)) | .rptr id i o => some (.rptr id i (o + fd.offset)) | .eptr es i o => some (.eptr es i (o + fd.offset)) | _ => none) = some v) :
    OpOk P I0 w0 o a w s v s.st := by
  have h1 := rep_compX h hx
  have run : ∀ (b off : Nat), a.eval x = .pointer (some ⟨b, off, none⟩) → (execOp a.eval o).run P w = .ok (.value (.pointer (some ⟨b, off + fd.offset, none⟩))) w := fun b off he => by
    simp [execOp, ho, he, Instr.fieldAt, run_underlying ht, hf, Instr.sureAddr, fieldPlace, sizeOf, typeInfo, hi, hs, Addr.add_lit]
  cases he : s.ev y <;> rw [he] at h1 hv <;> simp only [Option.some.injEq, reduceCtorEq] at hv
  · subst hv
    cases hq : a.eval x <;> rw [hq] at h1 <;> cases h1
    exact OpOk.same h (run _ _ hq) (.ptr _ _ (by assumption))
  · subst hv
    cases hq : a.eval x <;> rw [hq] at h1 <;> cases h1
    refine OpOk.same h (run _ _ hq) ?_
    rw [Nat.add_assoc]
    exact .rptr _ _ _ (by assumption)
  · subst hv
    cases hq : a.eval x <;> rw [hq] at h1 <;> cases h1
    rename_i b o' sz u hI hs hsz hcell hr
    refine OpOk.same h (run _ _ hq) ?_
    rw [Nat.add_assoc, Nat.add_assoc]
    exact .eptr _ _ _ b o' sz u hI hs hsz hcell hr

theorem ok_extract (h : Rel I0 w0 m I s a w) {o : Oper} {x : Operand} {y : Opd} {i : Nat} {cs : List AV} {c : AV} (ho : o.op = .extract x i) (hx : compX x = some y) (hv : s.ev y = .tup cs) (hc : cs[i]? = some c) : OpOk P I0 w0 o a w s c s.st := by
  have h1 := rep_compX h hx
  rw [hv] at h1
  cases hq : a.eval x <;> rw [hq] at h1 <;> cases h1
  rename_i us hl hr
  have hi : i < us.size := by have := (List.getElem?_eq_some_iff.1 hc).1; omega
  refine OpOk.same h (u := us[i]) ?_ (hr i c us[i] hc (Array.getElem?_eq_getElem hi))
  simp [execOp, ho, hq, Instr.extract, hi]

theorem ok_len (h : Rel I0 w0 m I s a w) {o : Oper} {x : Operand} {y : Opd} {t : TypeId} {v : AV} (ho : o.op = .call { callee := .builtin .len, args := #[x], argTypes := #[t] }) (hx : compX x = some y)
    (ht : (∃ e, P.underlying t = some (.slice e)) ∧ (match s.ev y with | .vs es => some (AV.v (.int .i64 es.length)) | .own _ _ len => some (.v (.int .i64 len)) | .nils => some (.v (.int .i64 0)) | _ => none) = some v ∨
      P.underlying t = some .string ∧ ∃ z, s.ev y = .v (.string z) ∧ v = .v (.int .i64 z.size)) : OpOk P I0 w0 o a w s v s.st := by
  have h1 := rep_compX h hx
  rcases ht with ⟨⟨e, ht⟩, hv⟩ | ⟨ht, z, hz, rfl⟩
  · have run : ∀ A n c, a.eval x = .slice A n c → (execOp a.eval o).run P w = .ok (.value (.int .i64 n)) w := fun A n c he => by
      simp [execOp, ho, he, resolve, invoke, builtin, Builtin.len_, run_underlying ht, goInt]
    generalize s.ev y = q at h1 hv
    generalize hq : a.eval x = u at h1
    cases h1 with
    | own id off len hid hl hn =>
      simp only [Option.some.injEq] at hv
      subst hv
      cases hnil : (m id).nil with
      | true =>
        rw [Loc.sl_nil hnil] at hq
        have : len = 0 := by have := hn hnil; omega
        subst this
        exact OpOk.same h (run _ _ _ hq) (.v _)
      | false =>
        rw [Loc.sl_not hnil] at hq
        exact OpOk.same h (run _ _ _ hq) (.v _)
    | vs es b o c sz u hI hc hs hsz hcell hr => simp only [Option.some.injEq] at hv; subst hv; exact OpOk.same h (run _ _ _ hq) (.v _)
    | vs0 A c => simp only [Option.some.injEq] at hv; subst hv; exact OpOk.same h (run _ _ _ hq) (.v _)
    | nils => simp only [Option.some.injEq] at hv; subst hv; exact OpOk.same h (run _ _ _ hq) (.v _)
    | _ => cases hv
  · rw [hz] at h1
    refine OpOk.same h (u := .int .i64 z.size) ?_ (.v _)
    simp [execOp, ho, h1.v_inv, resolve, invoke, builtin, Builtin.len_, run_underlying ht, goInt]

end
end Go.Am
