/- The abstract machine: stores, slices, what is read of slices, freezing. -/
import Derived.Test.YthbkdnojneffdaaAmSound3
namespace Go.Am
open Go.RowKit

section
variable {P : Program} {I0 : Nat → Prop} {w0 : World} {m : LMap} {I : Nat → Prop} {s : AS} {a : Act} {w : World}

theorem idx_inj {sz i i' j j' : Nat} (hj : j < sz) (hj' : j' < sz) (h : i * sz + j = i' * sz + j') : i = i' ∧ j = j' := by
  have e1 : (i * sz + j) / sz = i := by rw [Nat.mul_comm, Nat.mul_add_div (by omega), Nat.div_eq_of_lt hj, Nat.add_zero]
  have e2 : (i' * sz + j') / sz = i' := by rw [Nat.mul_comm, Nat.mul_add_div (by omega), Nat.div_eq_of_lt hj', Nat.add_zero]
  have e : i = i' := by rw [← e1, ← e2, h]
  subst e
  exact ⟨rfl, by omega⟩

theorem idx_lt {sz i j n : Nat} (hi : i < n) (hj : j < sz) : i * sz + j < n * sz := by
  have : (i + 1) * sz ≤ n * sz := Nat.mul_le_mul_right _ (by omega)
  rw [Nat.add_mul] at this
  omega

/-- What has been stored into a block of one's own. -/
theorem ok_store_blk (h : Rel I0 w0 m I s a w) {o : Oper} {t : TypeId} {i : TypeInfo} {x y : Operand} {x' y' : Opd} {id off : Nat} {t' : TypeId} {cs new : List AV} (ho : o.op = .store t x y) (hi : P.info? t = some i) (hx : compX x = some x') (hy : compX y = some y')
    (he : s.ev x' = .ptr id off) (hn : (s.ev y').cells? = some new) (hst : s.st[id]? = some (.blk t' cs)) (hl : new.length = i.size) (hle : off + i.size ≤ cs.length) (hone : new.all AV.one = true) :
    OpOk P I0 w0 o a w s (.v undef) (s.st.set id (.blk t' (splice cs off new))) := by
  have h1 := rep_compX h hx
  obtain ⟨hsz, hrn⟩ := (rep_compX h hy).cells hn
  rw [he] at h1
  cases hq : a.eval x <;> rw [hq] at h1 <;> cases h1
  obtain ⟨hnil, hlo, hnI, us, hheap, hlen, hrep⟩ := h.obj id _ hst
  have hall : ∀ v ∈ (a.eval y).cells.toList, v.oneCell' = true := fun v hv => by
    obtain ⟨k, hk, rfl⟩ := List.mem_iff_getElem.1 hv
    simp only [Array.length_toList] at hk
    have hkn : k < new.length := by omega
    have := List.all_eq_true.1 hone new[k] (List.getElem_mem hkn)
    refine (hrn k new[k] (a.eval y).cells[k] (List.getElem?_eq_getElem hkn) (Array.getElem?_eq_getElem hk)).one this
  have hrun := run_storeCells_at (P := P) (m id).b off t' (a.eval y).cells.toList 0 us w hheap (by simp; omega) hall
  simp only [Nat.add_zero, Array.length_toList] at hrun
  let us' : Array Value := (us.toList.take off ++ (a.eval y).cells.toList ++ us.toList.drop (off + (a.eval y).cells.size)).toArray
  have hus' : ∀ k, us'[k]? = if off ≤ k ∧ k < off + new.length then (a.eval y).cells[k - off]? else us[k]? := fun k => by
    have hto : (us.toList.take off).length = off := by simp; omega
    show (us.toList.take off ++ (a.eval y).cells.toList ++ us.toList.drop (off + (a.eval y).cells.size)).toArray[k]? = _
    rw [List.getElem?_toArray]
    by_cases h1 : k < off
    · rw [if_neg (by omega), List.append_assoc, List.getElem?_append_left (by omega), List.getElem?_take_of_lt h1, Array.getElem?_toList]
    · by_cases h2 : k < off + new.length
      · rw [if_pos ⟨by omega, h2⟩, List.append_assoc, List.getElem?_append_right (by omega), hto, List.getElem?_append_left (by simp; omega), Array.getElem?_toList]
      · rw [if_neg (by omega), List.getElem?_append_right (by simp; omega), List.getElem?_drop, Array.getElem?_toList]
        congr 1
        simp
        omega
  have hws : us'.size = us.size := by show (List.toArray _).size = _; simp; omega
  have hIw : ∀ b, I b → (w.setRow (m id).b us').heap[b]? = w.heap[b]? := fun b hb => setRow_other w _ _ _ (fun e => hnI (e ▸ hb))
  refine ⟨.skip, undef, w.setRow (m id).b us', m, I, ?_, .inr ⟨rfl, rfl⟩, ?_, .v _⟩
  · simp [execOp, ho, hq, Instr.storeAt, Instr.sureAddr, storeVar, sizeOf, typeInfo, hi, hsz, hl]
    rw [hrun]
    rfl
  · refine h.turn hst trivial hnil (by simp) rfl rfl rfl (fun k hk => setRow_other w _ _ _ hk) trivial ⟨hnil, hlo, hnI, us', setRow_heap w _ us us' t' _ hheap, by rw [hws, splice_length _ _ _ (by omega), hlen], fun k c u hk hu => ?_⟩
    rw [splice_get _ _ _ _ (by omega)] at hk
    rw [hus' k] at hu
    by_cases hin : off ≤ k ∧ k < off + new.length
    · rw [if_pos hin] at hk hu
      exact (hrn _ _ _ hk hu).mono (Nat.le_refl _) (fun _ _ => rfl) (fun _ hb => hb) hIw
    · rw [if_neg hin] at hk hu
      exact (hrep _ _ _ hk hu).mono (Nat.le_refl _) (fun _ _ => rfl) (fun _ hb => hb) hIw

/-! ### What is read of a slice -/

/-- The blocks of rows among these ids. -/
def rowsOf (m : LMap) (st : Store) (ids : List Nat) (b : Nat) : Prop := ∃ id ∈ ids, ∃ f t sz es, st[id]? = some (.row f t sz es) ∧ (m id).nil = false ∧ b = (m id).b

theorem rep_content (h : Rel I0 w0 m I s a w) {x : AV} {u : Value} {es : List (List AV)} (hr : Rep m s.st.length I w x u) (hc : content s.st x = some es) {I1 : Nat → Prop} (hI : ∀ b, I b → I1 b) (hI1 : ∀ b, rowsOf m s.st (idC x) b → I1 b) :
    Rep m s.st.length I1 w (.vs es) u ∧ ∃ sz, ∀ e ∈ es, EOk sz e := by
  cases hr with
  | nils => simp [content] at hc; subst hc; exact ⟨.vs0 _ _, 0, fun e he => by simp at he⟩
  | vs0 A c => simp [content] at hc; subst hc; exact ⟨.vs0 _ _, 0, fun e he => by simp at he⟩
  | vs es' b o c sz u hIb hc' hs hsz hcell hr =>
    simp [content] at hc
    subst hc
    exact ⟨(Rep.vs es' b o c sz u hIb hc' hs hsz hcell hr).mono (Nat.le_refl _) (fun _ _ => rfl) hI (fun _ _ => rfl), sz, hsz⟩
  | own id off len hid hl hn =>
    simp only [content] at hc
    split at hc
    · rename_i f t sz es' hst
      split at hc
      · rename_i hle
        cases hc
        rcases h.obj id _ hst with ⟨hnil, hcap, rfl⟩ | ⟨hnil, _, hmsz, hpos, hcap, hmax, hok, us, hheap, hlen, hrep⟩
        · rw [Loc.sl_nil hnil]
          simp
          exact .vs0 _ _
        · rw [Loc.sl_not hnil]
          have hsub : ∀ e ∈ (es'.drop off).take len, EOk sz e := fun e he => hok e (List.mem_of_mem_drop (List.mem_of_mem_take he))
          refine ⟨?_, sz, hsub⟩
          rcases Nat.eq_zero_or_pos len with h0 | hp
          · subst h0
            rw [List.take_zero]
            exact .vs0 _ _
          · have hlen' : ((es'.drop off).take len).length = len := by simp; omega
            have key : ∀ (i : Nat) (e : List AV) (j : Nat) (x : AV), ((es'.drop off).take len)[i]? = some e → e[j]? = some x → es'[off + i]? = some e ∧ (off + i) * sz + j < us.size := fun i e j x he hx => by
              have hi : i < len := by have := (List.getElem?_eq_some_iff.1 he).1; omega
              have hes : es'[off + i]? = some e := by
                rw [List.getElem?_take_of_lt hi, List.getElem?_drop] at he
                exact he
              have hj : j < sz := by have := (List.getElem?_eq_some_iff.1 hx).1; have := (hok e (List.mem_of_getElem? hes)).1; omega
              exact ⟨hes, by rw [hlen]; exact idx_lt (by omega) hj⟩
            have := Rep.vs (m := m) (n := s.st.length) (I := I1) (w := w) ((es'.drop off).take len) (m id).b (off * sz) ((m id).cap - off) sz (fun i j => us.getD ((off + i) * sz + j) undef) (hI1 _ ⟨id, by simp [idC], f, t, sz, es', hst, hnil, rfl⟩) (by omega) hpos hsub
              (fun i e j x he hx => by
                obtain ⟨h1, h2⟩ := key i e j x he hx
                rw [show off * sz + (i * sz + j) = (off + i) * sz + j from by rw [Nat.add_mul]; omega, cell_of_row w _ _ us t (0, 0) hheap]
                simp [Array.getD_eq_getD_getElem?, h2])
              (fun i e j x he hx => by
                obtain ⟨h1, h2⟩ := key i e j x he hx
                have := hrep (off + i) e j x us[(off + i) * sz + j] h1 hx (Array.getElem?_eq_getElem h2)
                have := this.mono (Nat.le_refl _) (fun _ _ => rfl) hI (fun _ _ => rfl)
                simpa [Array.getD_eq_getD_getElem?, h2] using this)
            rw [hlen'] at this
            rw [hmsz]
            exact this
      · cases hc
    · cases hc
  | _ => simp [content] at hc

theorem pure_vs {es : List (List AV)} {sz : Nat} (h : ∀ e ∈ es, EOk sz e) : Pure (.vs es) := .vs es fun e he c hc => ((h e he).2 c hc).2

theorem rep_vs_eok {n : Nat} {es : List (List AV)} {u : Value} (h : Rep m n I w (.vs es) u) : ∃ sz, ∀ e ∈ es, EOk sz e := by
  cases h with
  | vs0 A c => exact ⟨0, fun e he => by simp at he⟩
  | vs es' b o c sz u hIb hc' hs hsz hcell hr => exact ⟨sz, hsz⟩

/-- A cell as it is kept: what it stands for, and that it has no ids. -/
theorem rep_reifyC (h : Rel I0 w0 m I s a w) {x y : AV} {u : Value} (hr : Rep m s.st.length I w x u) (hc : reifyC s.st x = some y) {I1 : Nat → Prop} (hI : ∀ b, I b → I1 b) (hI1 : ∀ b, rowsOf m s.st (idC x) b → I1 b) :
    Rep m s.st.length I1 w y u ∧ Pure y ∧ y.one = true := by
  have mono : ∀ {x : AV}, Rep m s.st.length I w x u → Rep m s.st.length I1 w x u := fun hh => hh.mono (Nat.le_refl _) (fun _ _ => rfl) hI (fun _ _ => rfl)
  cases x with
  | v x =>
    simp only [reifyC] at hc
    split at hc
    · rename_i ho; cases hc; exact ⟨mono hr, .v _, ho⟩
    · cases hc
  | nils => simp only [reifyC, Option.some.injEq] at hc; subst hc; cases hr; exact ⟨.vs0 _ _, .vs _ (fun e he => by simp at he), rfl⟩
  | vs es => simp only [reifyC, Option.some.injEq] at hc; subst hc; obtain ⟨sz, hsz⟩ := rep_vs_eok hr; exact ⟨mono hr, pure_vs hsz, rfl⟩
  | eptr es i off =>
    simp only [reifyC, Option.some.injEq] at hc
    subst hc
    refine ⟨mono hr, ?_, rfl⟩
    cases hr with
    | eptr _ _ _ b o sz u hIb hs hsz hcell hr => exact .eptr es i off fun e he c hc => ((hsz e he).2 c hc).2
  | own id off len =>
    simp only [reifyC, Option.map_eq_some_iff] at hc
    obtain ⟨es, hes, rfl⟩ := hc
    obtain ⟨h1, sz, h2⟩ := rep_content h hr hes hI hI1
    exact ⟨h1, pure_vs h2, rfl⟩
  | fn f cs =>
    cases cs with
    | nil => simp only [reifyC, Option.some.injEq] at hc; subst hc; exact ⟨mono hr, .fn _ _ (fun c hc => by simp at hc), rfl⟩
    | cons c cs => simp [reifyC] at hc
  | _ => simp [reifyC] at hc

theorem rep_reifyL (h : Rel I0 w0 m I s a w) {I1 : Nat → Prop} (hI : ∀ b, I b → I1 b) : ∀ {cs ds : List AV}, reifyL s.st cs = some ds → (∀ b, rowsOf m s.st (cs.flatMap idC) b → I1 b) →
    ds.length = cs.length ∧ ∀ (i : Nat) (c d : AV) (u : Value), cs[i]? = some c → ds[i]? = some d → Rep m s.st.length I w c u → Rep m s.st.length I1 w d u ∧ Pure d ∧ d.one = true
  | [], ds, hd, _ => by simp [reifyL] at hd; subst hd; exact ⟨rfl, fun i c d u hc => by simp at hc⟩
  | c :: r, ds, hd, hI1 => by
    simp only [reifyL] at hd
    split at hd
    · rename_i x xs hx hxs
      cases hd
      obtain ⟨h1, h3⟩ := rep_reifyL h hI hxs (fun b ⟨id, hid, rest⟩ => hI1 b ⟨id, by simp only [List.flatMap_cons, List.mem_append]; exact .inr hid, rest⟩)
      have hc1 : ∀ b, rowsOf m s.st (idC c) b → I1 b := fun b ⟨id, hid, rest⟩ => hI1 b ⟨id, by simp only [List.flatMap_cons, List.mem_append]; exact .inl hid, rest⟩
      refine ⟨by simp [h1], fun i c' d u hc hd hr => ?_⟩
      cases i with
      | zero => simp at hc hd; subst hc hd; exact rep_reifyC h hr hx hI hc1
      | succ i => exact h3 i c' d u (by simpa using hc) (by simpa using hd) hr
    · cases hd

/-- A value as it is handed on: what it stands for, and that it has no ids. -/
theorem rep_reify (h : Rel I0 w0 m I s a w) {x y : AV} {u : Value} (hr : Rep m s.st.length I w x u) (hc : reify s.st x = some y) {I1 : Nat → Prop} (hI : ∀ b, I b → I1 b) (hI1 : ∀ b, rowsOf m s.st x.ids b → I1 b) :
    Rep m s.st.length I1 w y u ∧ Pure y := by
  cases x with
  | agg cs =>
    simp only [reify, Option.map_eq_some_iff] at hc
    obtain ⟨ds, hds, rfl⟩ := hc
    obtain ⟨h1, h2⟩ := rep_reifyL h hI hds hI1
    cases hr with
    | agg _ us hl hrc =>
      have key : ∀ (i : Nat) (d : AV), ds[i]? = some d → ∃ c u, cs[i]? = some c ∧ us[i]? = some u ∧ Rep m s.st.length I w c u := fun i d hd => by
        have hi : i < cs.length := by have := (List.getElem?_eq_some_iff.1 hd).1; omega
        have hu : i < us.size := by omega
        exact ⟨cs[i], us[i], List.getElem?_eq_getElem hi, Array.getElem?_eq_getElem hu, hrc i _ _ (List.getElem?_eq_getElem hi) (Array.getElem?_eq_getElem hu)⟩
      refine ⟨.agg ds us (by omega) fun i d u hd hu => ?_, .agg ds fun d hd => ?_⟩
      · obtain ⟨c, u', hc, hu', hr⟩ := key i d hd
        rw [hu] at hu'
        cases hu'
        exact (h2 i c d u hc hd hr).1
      · obtain ⟨i, hi, rfl⟩ := List.mem_iff_getElem.1 hd
        obtain ⟨c, u', hc, hu', hr⟩ := key i ds[i] (List.getElem?_eq_getElem hi)
        exact (h2 i c ds[i] u' hc (List.getElem?_eq_getElem hi) hr).2.1
  | _ =>
    obtain ⟨h1, h2, _⟩ := rep_reifyC h hr hc hI hI1
    exact ⟨h1, h2⟩

/-- Rows that are no more written. -/
theorem Rel.freeze (h : Rel I0 w0 m I s a w) (ids : List Nat) : Rel I0 w0 m (fun b => I b ∨ rowsOf m s.st ids b) { s with st := freeze ids s.st } a w := by
  have hlen : (Am.freeze ids s.st).length = s.st.length := by simp [Am.freeze]
  have hget : ∀ (k : Nat), (Am.freeze ids s.st)[k]? = (s.st[k]?).map fun o => if k ∈ ids then o.freeze else o := fun k => by simp [Am.freeze, List.getElem?_mapIdx]
  have hmono : ∀ {x : AV} {u : Value}, Rep m s.st.length I w x u → Rep m s.st.length (fun b => I b ∨ rowsOf m s.st ids b) w x u := fun hh => hh.mono (Nat.le_refl _) (fun _ _ => rfl) (fun _ hb => .inl hb) (fun _ _ => rfl)
  have live : ∀ (k : Nat) (o : AObj), (Am.freeze ids s.st)[k]? = some o → o.live → s.st[k]? = some o ∧ ¬ (k ∈ ids ∧ ∃ f t sz es, o = .row f t sz es) := fun k o hk hl => by
    rw [hget k, Option.map_eq_some_iff] at hk
    obtain ⟨o', ho', he⟩ := hk
    by_cases hin : k ∈ ids
    · rw [if_pos hin] at he
      cases o' with
      | row f t sz es => simp only [AObj.freeze] at he; subst he; exact absurd hl (by simp [AObj.live])
      | blk t cs => simp only [AObj.freeze] at he; subst he; exact ⟨ho', fun ⟨_, f, t, sz, es, e⟩ => by cases e⟩
      | gone => simp only [AObj.freeze] at he; subst he; cases hl
    · rw [if_neg hin] at he
      subst he
      exact ⟨ho', fun hh => hin hh.1⟩
  refine ⟨h.size, fun i x u hx hu => by rw [hlen]; exact hmono (h.fr i x u hx hu), h.df, h.bel, fun b hb => ?_, fun b hb => ?_, fun k o hk => ?_, fun k k' o o' hk hk' l l' n1 n2 hne => ?_⟩
  · rcases hb with hb | ⟨id, _, f, t, sz, es, hst, hn, rfl⟩
    · exact h.imm b hb
    · exact Obj.ok_lt (h.obj id _ hst) (by simp) hn
  · rcases hb with hb | ⟨id, _, f, t, sz, es, hst, hn, rfl⟩
    · exact h.iz b hb
    · cases f with
      | true => exact .inr (Obj.ok_live (h.obj id _ hst) rfl hn).1
      | false => exact h.iz _ (Obj.ok_dead (h.obj id _ hst) (by simp) (by simp [AObj.live]) hn)
  · rw [hlen]
    have hk0 := hk
    rw [hget k, Option.map_eq_some_iff] at hk
    obtain ⟨o', ho', he⟩ := hk
    have hid : k < s.st.length := (List.getElem?_eq_some_iff.1 ho').1
    have hok := h.obj k o' ho'
    by_cases hin : k ∈ ids ∧ ∃ f t sz es, o' = .row f t sz es
    · obtain ⟨hin, f, t, sz, es, rfl⟩ := hin
      rw [if_pos hin] at he
      simp only [AObj.freeze] at he
      subst he
      rcases hok with hok | ⟨hnil, _, h1, h2, h3, h4, h5, us, h6, h7, h8⟩
      · exact .inl hok
      · exact .inr ⟨hnil, by rw [if_neg (by simp)]; exact .inr ⟨k, hin, f, t, sz, es, ho', hnil, rfl⟩, h1, h2, h3, h4, h5, us, h6, h7, fun i e j x u a b c => hmono (h8 i e j x u a b c)⟩
    · have e : o = o' := by
        by_cases hin' : k ∈ ids
        · rw [if_pos hin'] at he
          cases o' with
          | row f t sz es => exact absurd ⟨hin', f, t, sz, es, rfl⟩ hin
          | blk t cs => exact he.symm
          | gone => exact he.symm
        · rw [if_neg hin'] at he; exact he.symm
      subst e
      refine Obj.ok_mono hok hid (Nat.le_refl _) (fun _ _ => rfl) (fun _ hb => .inl hb) (fun _ _ => rfl) (fun _ => rfl) (fun hlv hn hi => ?_)
      rcases hi with hi | ⟨id, hids, f, t, sz, es, hst, hn', hb⟩
      · exact (Obj.ok_live hok hlv hn).2 hi
      · have hne : k ≠ id := by
          rintro rfl
          rw [ho'] at hst
          cases hst
          exact hin ⟨hids, f, t, sz, es, rfl⟩
        cases f with
        | true => exact h.inj k id o _ ho' hst hlv rfl hn hn' hne hb
        | false => exact (Obj.ok_live hok hlv hn).2 (by rw [hb]; exact Obj.ok_dead (h.obj id _ hst) (by simp) (by simp [AObj.live]) hn')
  · exact h.inj k k' o o' (live k o hk l).1 (live k' o' hk' l').1 l l' n1 n2 hne

end
end Go.Am
