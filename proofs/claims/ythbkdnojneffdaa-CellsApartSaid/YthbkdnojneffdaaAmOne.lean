/- The abstract machine: one operation, whatever it is (calls are in the next text). -/
import Derived.Test.YthbkdnojneffdaaAmSound6
namespace Go.Am
open Go.RowKit

section
variable {P : Program} {I0 : Nat → Prop} {w0 : World} {m : LMap} {I : Nat → Prop} {s : AS} {a : Act} {w : World}

theorem ok_append_empty (h : Rel I0 w0 m I s a w) {o : Oper} {t e : TypeId} {i : TypeInfo} {x y : Operand} {x' y' : Opd} (ho : o.op = .call { callee := .builtin .append, args := #[x, y], argTypes := #[t, t] }) (ht : P.underlying t = some (.slice e)) (hi : P.info? e = some i)
    (hx : compX x = some x') (hy : compX y = some y') (hv : s.ev x' = .nils ∨ ∃ id off len, s.ev x' = .own id off len) (hc : content s.st (s.ev y') = some []) : OpOk P I0 w0 o a w s (s.ev x') s.st := by
  have hry := rep_compX h hy
  have hrx := rep_compX h hx
  obtain ⟨B, c, hyv⟩ : ∃ B c, a.eval y = .slice B 0 c := by
    generalize s.ev y' = q at hry hc
    generalize a.eval y = u at hry
    cases hry with
    | nils => exact ⟨_, _, rfl⟩
    | vs0 A c => exact ⟨_, _, rfl⟩
    | vs es' b o c sz u hIb hc' hs hsz hcell hr => simp [content] at hc; subst hc; exact ⟨_, _, rfl⟩
    | own id off len hid hl hn =>
      simp only [content] at hc
      split at hc
      · split at hc
        · rename_i hle
          have : len = 0 := by
            have h1 := congrArg List.length (Option.some.inj hc)
            simp at h1
            omega
          subst this
          unfold Loc.sl
          split
          · exact ⟨_, _, rfl⟩
          · exact ⟨_, _, rfl⟩
        · cases hc
      · cases hc
    | _ => simp [content] at hc
  have hfirst : ∀ W : World, (Builtin.firstCells i.size 0 (.slice B 0 c)).run P W = .ok #[] W := fun W => by
    cases B with
    | none => simp [Builtin.firstCells]
    | some ad => simp [Builtin.firstCells, loadCells, loadCellsFrom]
  refine OpOk.same h (u := a.eval x) ?_ hrx
  rcases hv with hv | ⟨id, off, len, hv⟩
  · rw [hv] at hrx
    have hvx : a.eval x = .slice none 0 0 := by cases hq : a.eval x <;> rw [hq] at hrx <;> cases hrx; rfl
    simp [execOp, ho, resolve, invoke, builtin, hvx, hyv, Builtin.append_, run_underlying ht, sizeOf, typeInfo, hi, Builtin.lenOf, hfirst]
  · rw [hv] at hrx
    generalize hq : a.eval x = u at hrx
    cases hrx with
    | own _ _ _ hid hl hn =>
      cases hnil : (m id).nil with
      | true =>
        rw [Loc.sl_nil hnil] at hq ⊢
        simp [execOp, ho, resolve, invoke, builtin, hq, hyv, Builtin.append_, run_underlying ht, sizeOf, typeInfo, hi, Builtin.lenOf, hfirst]
      | false =>
        rw [Loc.sl_not hnil] at hq ⊢
        have hle : len ≤ (m id).cap - off := by omega
        simp [execOp, ho, resolve, invoke, builtin, hq, hyv, Builtin.append_, run_underlying ht, sizeOf, typeInfo, hi, Builtin.lenOf, hfirst, hle, storeCells]

set_option maxHeartbeats 1000000 in
theorem sound_op (h : Rel I0 w0 m I s a w) {o : Oper} {ao : AOp} {x : AV} {st' : Store} (hc : compOp P o.op = some ao) (hs : semF P ao s.ev s.st = some (x, st')) : OpOk P I0 w0 o a w s x st' := by
  cases hop : o.op with
  | move y =>
    simp only [hop, compOp, Option.map_eq_some_iff] at hc
    obtain ⟨y', hy, rfl⟩ := hc
    simp only [semF, Option.some.injEq, Prod.mk.injEq] at hs
    obtain ⟨rfl, rfl⟩ := hs
    exact ok_mov h (.inl hop) hy
  | assign y =>
    simp only [hop, compOp, Option.map_eq_some_iff] at hc
    obtain ⟨y', hy, rfl⟩ := hc
    simp only [semF, Option.some.injEq, Prod.mk.injEq] at hs
    obtain ⟨rfl, rfl⟩ := hs
    exact ok_mov h (.inr hop) hy
  | pick c y z =>
    simp only [hop, compOp] at hc
    split at hc
    · rename_i c' y' z' hc' hy' hz'
      cases hc
      simp only [semF] at hs
      split at hs
      · rename_i t ht
        cases hs
        exact ok_pick h hop hc' hy' hz' ht
      · cases hs
    · cases hc
  | alloc t =>
    simp only [hop, compOp] at hc
    split at hc
    · rename_i i hi
      split at hc
      · rename_i z hz
        split at hc
        · cases hc
          simp only [semF, Option.some.injEq, Prod.mk.injEq] at hs
          obtain ⟨rfl, rfl⟩ := hs
          exact ok_new h hop hi hz
        · cases hc
      · cases hc
    · cases hc
  | box t y =>
    simp only [hop, compOp, Option.map_eq_some_iff] at hc
    obtain ⟨y', hy, rfl⟩ := hc
    simp only [semF] at hs
    split at hs
    · rename_i cs hcs
      cases hs
      exact ok_box h hop hy hcs
    · cases hs
  | build t parts =>
    simp only [hop, compOp] at hc
    split at hc
    · rename_i it fs hit hu
      split at hc
      · rename_i z places hz hpl
        simp only [Option.map_eq_some_iff] at hc
        obtain ⟨ps, hps, rfl⟩ := hc
        simp only [semF, Option.map_eq_some_iff] at hs
        obtain ⟨cs, hcs, he⟩ := hs
        cases he
        exact ok_build h (place := (places.toArray[·]?)) hop hps (fun l => by simp only [Program.built, hit, hu, hz, hpl]) hcs
      · cases hc
    · rename_i it n e hit hu
      split at hc
      · rename_i z ie hz hie
        simp only [Option.map_eq_some_iff] at hc
        obtain ⟨ps, hps, rfl⟩ := hc
        simp only [semF, Option.map_eq_some_iff] at hs
        obtain ⟨cs, hcs, he⟩ := hs
        cases he
        exact ok_build h (place := fun i => some (i * ie.size, ie.size)) hop hps (fun l => by simp only [Program.built, hit, hu, hz, hie]) hcs
      · cases hc
    · cases hc
  | buildSlice t len parts =>
    simp only [hop, compOp] at hc
    split at hc
    · rename_i e hu
      split at hc
      · rename_i i ps hi hps
        split at hc
        · rename_i z hz
          split at hc
          · rename_i hb
            cases hc
            simp only [semF] at hs
            split at hs
            · rename_i es ids hpa
              cases hs
              exact ok_bslice h hop hu hi hz hb.1 hb.2.1 hb.2.2.1 hb.2.2.2 hps hpa
            · cases hs
          · cases hc
        · cases hc
      · cases hc
    · cases hc
  | load t y =>
    simp only [hop, compOp] at hc
    split at hc
    · rename_i d i y' hd hi hy
      cases hc
      have hkey : ∀ q : Option AV, (q.map (·, s.st)) = some (x, st') → q = some x ∧ st' = s.st := fun q hq => by
        simp only [Option.map_eq_some_iff] at hq
        obtain ⟨v, hv, he⟩ := hq
        cases he
        exact ⟨hv, rfl⟩
      simp only [semF] at hs
      have : st' = s.st ∧ (match s.ev y' with
        | .ptr id off => match s.st[id]? with
          | some (.blk _ cs) => getCells (isAggD d) i.size cs off
          | _ => none
        | .rptr id k off => match s.st[id]? with
          | some (.row _ _ _ es) => match es[k]? with
            | some e => getCells (isAggD d) i.size e off
            | none => none
          | _ => none
        | .eptr es k off => match es[k]? with
          | some e => getCells (isAggD d) i.size e off
          | none => none
        | _ => none) = some x := by
        cases he : s.ev y' <;> rw [he] at hs <;> simp only [reduceCtorEq] at hs
        · rename_i id off
          cases hst : s.st[id]? with
          | none => simp [hst] at hs
          | some ob =>
            cases ob <;> simp only [hst, reduceCtorEq] at hs ⊢
            exact (hkey _ hs).symm
        · rename_i id k off
          cases hst : s.st[id]? with
          | none => simp [hst] at hs
          | some ob =>
            cases ob <;> simp only [hst, reduceCtorEq] at hs ⊢
            rename_i f t' sz es
            cases hk : es[k]? with
            | none => simp [hk] at hs
            | some e => simp only [hk] at hs ⊢; exact (hkey _ hs).symm
        · rename_i es k off
          cases hk : es[k]? with
          | none => simp [hk] at hs
          | some e => simp only [hk] at hs ⊢; exact (hkey _ hs).symm
      obtain ⟨rfl, hv⟩ := this
      exact ok_load h hop hy hd hi hv
    · cases hc
  | store t y z =>
    simp only [hop, compOp] at hc
    split at hc
    · rename_i i y' z' hi hy hz
      cases hc
      simp only [semF] at hs
      split at hs
      · rename_i id off new he hn
        split at hs
        · rename_i t' cs hst
          split at hs
          · rename_i hb
            cases hs
            exact ok_store_blk h hop hi hy hz he hn hst hb.1 hb.2.1 hb.2.2
          · cases hs
        · cases hs
      · cases hs
    · cases hc
  | binOp op t y z t' =>
    simp only [hop, compOp] at hc
    split at hc
    · rename_i y' z' hu hy hz
      split at hc
      · cases hc
        simp only [semF] at hs
        split at hs
        · rename_i u v hu' hv'
          cases hs
          exact ok_eqb (neg := false) h hop hy hz hu rfl hu' hv'
        · cases hs
      · cases hc
        simp only [semF] at hs
        split at hs
        · rename_i u v hu' hv'
          cases hs
          exact ok_eqb (neg := true) h hop hy hz hu rfl hu' hv'
        · cases hs
      · cases hc
    · rename_i fs y' z' hu hy hz
      have fin : ∀ (neg : Bool), op = (if neg then BinOp.neq else .eql) → P.eqGuardType P.depth t = false → semF P (.eqs neg t y' z') s.ev s.st = some (x, st') → OpOk P I0 w0 o a w s x st' := fun neg hopn hg hs => by
        simp only [semF] at hs
        split at hs
        · rename_i cs ds hcs hds
          split at hs
          · rename_i us vs hus hvs
            simp only [Option.map_eq_some_iff] at hs
            obtain ⟨b, hb, he⟩ := hs
            cases he
            exact ok_eqs h hop hy hz hopn hg hcs hds hus hvs hb
          · cases hs
        · cases hs
      split at hc
      · split at hc
        · cases hc
        · rename_i hg; cases hc; exact fin false rfl (by simpa using hg) hs
      · split at hc
        · cases hc
        · rename_i hg; cases hc; exact fin true rfl (by simpa using hg) hs
      · cases hc
    · rename_i k y' z' hu hy hz
      cases hc
      simp only [semF] at hs
      split at hs
      · rename_i u v hu' hv'
        split at hs
        · rename_i hsc
          simp only [Option.map_eq_some_iff] at hs
          obtain ⟨r, hr, he⟩ := hs
          cases he
          simp only [Bool.and_eq_true] at hsc
          exact ok_bin h hop hy hz hu' hv' hsc.1 hr
        · cases hs
      · cases hs
    · rename_i y' z' hu hy hz
      cases hc
      simp only [semF] at hs
      split at hs
      · rename_i u v hu' hv'
        split at hs
        · rename_i hsc
          simp only [Option.map_eq_some_iff] at hs
          obtain ⟨r, hr, he⟩ := hs
          cases he
          simp only [Bool.and_eq_true] at hsc
          exact ok_bin h hop hy hz hu' hv' hsc.1 hr
        · cases hs
      · cases hs
    · cases hc
  | unOp op t y =>
    simp only [hop, compOp, Option.map_eq_some_iff] at hc
    obtain ⟨y', hy, rfl⟩ := hc
    simp only [semF] at hs
    split at hs
    · rename_i b hb
      simp only [Option.map_eq_some_iff] at hs
      obtain ⟨r, hr, he⟩ := hs
      cases he
      exact ok_un h hop hy hb hr
    · cases hs
  | convert src dst y =>
    simp only [hop, compOp] at hc
    split at hc
    · rename_i k k' y' hs' hd hy
      cases hc
      simp only [semF] at hs
      split at hs
      · rename_i k'' n hn
        cases hs
        exact ok_conv h hop hy hs' hd hn
      · cases hs
    · cases hc
  | fieldAddr t y f =>
    simp only [hop, compOp] at hc
    split at hc
    · rename_i fs y' hu hy
      split at hc
      · rename_i fd hfd
        split at hc
        · rename_i i hi
          split at hc
          · cases hc
          · rename_i hsz
            cases hc
            simp only [semF] at hs
            have : st' = s.st ∧ (match s.ev y' with | .ptr id o => some (AV.ptr id (o + fd.offset)) | .rptr id i o => some (.rptr id i (o + fd.offset)) | .eptr es i o => some (.eptr es i (o + fd.offset)) | _ => none) = some x := by
              cases he : s.ev y' <;> rw [he] at hs <;> simp only [reduceCtorEq, Option.some.injEq, Prod.mk.injEq] at hs <;> exact ⟨hs.2.symm, by simpa using hs.1⟩
            obtain ⟨rfl, hv⟩ := this
            exact ok_fa h hop hy hu hfd hi hsz hv
        · cases hc
      · cases hc
    · cases hc
  | indexAddr t y j =>
    simp only [hop, compOp] at hc
    split at hc
    · rename_i e y' j' hu hy hj
      split at hc
      · rename_i i hi
        split at hc
        · cases hc
        · rename_i hsz
          cases hc
          simp only [semF] at hs
          have : st' = s.st ∧ (match s.ev y', s.ev j' with
            | .vs es, .v (.int _ n) => if 0 ≤ n ∧ n < es.length then (match es[n.toNat]? with
              | some e => if e.length = i.size then some (AV.eptr [e] 0 0) else none
              | none => none) else none
            | .own id off len, .v (.int _ n) => match s.st[id]? with
              | some (.row _ _ z _) => if 0 ≤ n ∧ n < len ∧ z = i.size then some (.rptr id (off + n.toNat) 0) else none
              | _ => none
            | _, _ => none) = some x := by
            split at hs
            · rename_i es k n he hn
              rw [he, hn]
              simp only
              split at hs
              · rename_i hb
                rw [if_pos hb]
                cases hk : es[n.toNat]? with
                | none => simp [hk] at hs
                | some e' =>
                  simp only [hk] at hs ⊢
                  split at hs
                  · rename_i hl; cases hs; exact ⟨rfl, by rw [if_pos hl]⟩
                  · cases hs
              · cases hs
            · rename_i id off len k n he hn
              rw [he, hn]
              simp only
              cases hst : s.st[id]? with
              | none => simp [hst] at hs
              | some ob =>
                cases ob <;> simp only [hst, reduceCtorEq] at hs ⊢
                split at hs
                · rename_i hb; cases hs; exact ⟨rfl, by rw [if_pos hb]⟩
                · cases hs
            · cases hs
          obtain ⟨rfl, hv⟩ := this
          exact ok_ia h hop hy hj hu hi hv
      · cases hc
    · cases hc
  | field t y f =>
    simp only [hop, compOp] at hc
    split at hc
    · rename_i fs y' hu hy
      split at hc
      · rename_i fd hfd
        split at hc
        · rename_i i d hi hd
          cases hc
          simp only [semF] at hs
          split at hs
          · rename_i cs hcs
            simp only [Option.map_eq_some_iff] at hs
            obtain ⟨v, hv, he⟩ := hs
            cases he
            exact ok_field h hop hy hu hfd hi hd hcs hv
          · cases hs
        · cases hc
      · cases hc
    · cases hc
  | extract y i =>
    simp only [hop, compOp, Option.map_eq_some_iff] at hc
    obtain ⟨y', hy, rfl⟩ := hc
    simp only [semF] at hs
    split at hs
    · rename_i cs hcs
      split at hs
      · rename_i c hc'
        cases hs
        exact ok_extract h hop hy hcs hc'
      · cases hs
    · cases hs
  | slice t y lo hi mx =>
    cases mx with
    | some q => simp [hop, compOp] at hc
    | none =>
      simp only [hop, compOp] at hc
      split at hc
      · rename_i e y' l h' hu hy hl hh
        split at hc
        · rename_i i hi'
          split at hc
          · cases hc
          · cases hc
            simp only [semF] at hs
            cases hv : s.ev y' <;> rw [hv] at hs <;> simp only [reduceCtorEq] at hs
            · -- nil
              split at hs
              · rename_i l1 h1 hl1 hh1
                split at hs
                · rename_i hb
                  cases hs
                  obtain ⟨rfl, rfl⟩ := hb
                  exact ok_slice_nils h hop hu hi' hy hv (by simpa using opt_int h hl hl1) (by simpa using opt_int h hh hh1)
                · cases hs
              · cases hs
            · rename_i es
              split at hs
              · rename_i l1 h1 hl1 hh1
                split at hs
                · rename_i hb
                  cases hs
                  exact ok_slice_vs h hop hu hi' hy hv (opt_int h hl hl1) (opt_int h hh hh1) hb.1 hb.2.1 hb.2.2.1 hb.2.2.2
                · cases hs
              · cases hs
            · rename_i id off len
              split at hs
              · rename_i l1 h1 f t' z es hl1 hh1 hst
                split at hs
                · rename_i hb
                  have hst' := hst
                  rw [hb.2.2.2] at hst'
                  have := ok_slice_own h hop hu hi' hy hv hst' (opt_int h hl hl1) (opt_int h hh hh1) hb.1 hb.2.1 hb.2.2.1
                  split at hs
                  · rename_i hq; cases hs; rwa [if_pos hq] at this
                  · rename_i hq; cases hs; rwa [if_neg hq] at this
                · cases hs
              · cases hs
        · cases hc
      · cases hc
  | call c =>
    obtain ⟨callee, args, ts⟩ := c
    cases callee with
    | invoke r n => simp [hop, compOp] at hc
    | value f =>
      cases f <;> simp only [hop, compOp, reduceCtorEq] at hc
      split at hc
      · split at hc
        · cases hc; simp [semF] at hs
        · cases hc
      · cases hc
    | builtin b =>
      cases b <;> simp only [hop, compOp, reduceCtorEq] at hc
      · -- append
        split at hc
        · rename_i y z t t' ha hts
          have ha' : args = #[y, z] := by rw [← Array.toArray_toList (xs := args), ha]
          have hts' : ts = #[t, t'] := by rw [← Array.toArray_toList (xs := ts), hts]
          subst ha' hts'
          split at hc
          · rename_i htt
            subst htt
            split at hc
            · rename_i e y' z' hu hy hz
              split at hc
              · rename_i i hi
                split at hc
                · rename_i zv hzv
                  split at hc
                  · rename_i hb
                    cases hc
                    simp only [semF] at hs
                    split at hs
                    · cases hs
                    · rename_i hcont
                      split at hs
                      · rename_i hv
                        cases hs
                        have := ok_append_empty h hop hu hi hy hz (.inl hv) hcont
                        rwa [hv] at this
                      · rename_i id off len hv
                        cases hs
                        have := ok_append_empty h hop hu hi hy hz (.inr ⟨id, off, len, hv⟩) hcont
                        rwa [hv] at this
                      · cases hs
                    · rename_i news hne hcont
                      split at hs
                      · rename_i hv
                        split at hs
                        · rename_i hq
                          cases hs
                          exact ok_append_nils h hop hu hi hzv hb.1 hb.2.1 hy hz hv hcont (fun e => hne e) hq.1 hb.2.2 hq.2
                        · cases hs
                      · rename_i id len hv
                        split at hs
                        · rename_i t' sz' es hst
                          split at hs
                          · rename_i hq
                            cases hs
                            obtain ⟨rfl, rfl, q1, q2, q3, q4⟩ := hq
                            exact ok_append_own h hop hu hi hzv hb.1 hb.2.1 hy hz hv hst q1 hcont (fun e => hne e) q2 q3 q4
                          · cases hs
                        · cases hs
                      · cases hs
                  · cases hc
                · cases hc
              · cases hc
            · cases hc
          · cases hc
        · cases hc
      · -- len
        split at hc
        · rename_i y t ha hts
          have ha' : args = #[y] := by rw [← Array.toArray_toList (xs := args), ha]
          have hts' : ts = #[t] := by rw [← Array.toArray_toList (xs := ts), hts]
          subst ha' hts'
          split at hc
          · rename_i e y' hu hy
            cases hc
            have : st' = s.st ∧ (match s.ev y' with | .vs es => some (AV.v (.int .i64 es.length)) | .own _ _ len => some (.v (.int .i64 len)) | .nils => some (.v (.int .i64 0)) | _ => none) = some x := by
              cases he : s.ev y' <;> simp only [semF, he, reduceCtorEq, Option.some.injEq, Prod.mk.injEq] at hs <;> exact ⟨hs.2.symm, by simpa using hs.1⟩
            obtain ⟨rfl, hv⟩ := this
            exact ok_len h hop hy (.inl ⟨⟨e, hu⟩, hv⟩)
          · rename_i y' hu hy
            cases hc
            simp only [semF] at hs
            split at hs
            · rename_i z hz
              cases hs
              exact ok_len h hop hy (.inr ⟨hu, z, hz, rfl⟩)
            · cases hs
          · cases hc
        · cases hc
  | _ => simp [hop, compOp] at hc

end
end Go.Am
