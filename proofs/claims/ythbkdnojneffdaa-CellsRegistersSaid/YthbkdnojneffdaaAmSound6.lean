/- The abstract machine: append. -/
import Derived.Test.YthbkdnojneffdaaAmSound5
namespace Go.Am
open Go.RowKit

section
variable {P : Program} {I0 : Nat → Prop} {w0 : World} {m : LMap} {I : Nat → Prop} {s : AS} {a : Act} {w : World}

/-- The cells behind a slice that has elements. -/
theorem src_cells (h : Rel I0 w0 m I s a w) {x : AV} {u : Value} {es : List (List AV)} (hr : Rep m s.st.length I w x u) (hc : content s.st x = some es) (hne : es ≠ []) :
    ∃ (b o c sz : Nat) (v : Nat → Nat → Value), u = .slice (some ⟨b, o, none⟩) es.length c ∧ 0 < sz ∧ (∀ e ∈ es, EOk sz e) ∧
      (∀ (i : Nat) (e : List AV) (j : Nat) (x : AV), es[i]? = some e → e[j]? = some x → w.cell? ⟨b, o + (i * sz + j), none⟩ = some (v i j)) ∧
      (∀ (i : Nat) (e : List AV) (j : Nat) (x : AV), es[i]? = some e → e[j]? = some x → Rep m s.st.length I w x (v i j)) := by
  cases hr with
  | nils => simp [content] at hc; exact absurd hc hne
  | vs0 A c => simp [content] at hc; exact absurd hc hne
  | vs es' b o c sz u hIb hc' hs hsz hcell hr =>
    simp [content] at hc
    subst hc
    exact ⟨b, o, c, sz, u, rfl, hs, hsz, hcell, hr⟩
  | own id off len hid hl hn =>
    simp only [content] at hc
    split at hc
    · rename_i f t sz es' hst
      split at hc
      · rename_i hle
        cases hc
        obtain ⟨hnil, _, hmsz, hpos, hcap, hmax, hok, us, hheap, hlen, hrep⟩ := (h.obj id _ hst).resolve_left (fun hh => hne (by rw [hh.2.2]; simp))
        rw [Loc.sl_not hnil]
        have hsub : ∀ e ∈ (es'.drop off).take len, EOk sz e := fun e he => hok e (List.mem_of_mem_drop (List.mem_of_mem_take he))
        have hlen' : ((es'.drop off).take len).length = len := by simp; omega
        have key : ∀ (i : Nat) (e : List AV) (j : Nat) (x : AV), ((es'.drop off).take len)[i]? = some e → e[j]? = some x → es'[off + i]? = some e ∧ (off + i) * sz + j < us.size := fun i e j x he hx => by
          have hi : i < len := by have := (List.getElem?_eq_some_iff.1 he).1; omega
          have hes : es'[off + i]? = some e := by
            rw [List.getElem?_take_of_lt hi, List.getElem?_drop] at he
            exact he
          have hj : j < sz := by have := (List.getElem?_eq_some_iff.1 hx).1; have := (hok e (List.mem_of_getElem? hes)).1; omega
          exact ⟨hes, by rw [hlen]; exact idx_lt (by omega) hj⟩
        refine ⟨(m id).b, off * sz, (m id).cap - off, sz, fun i j => us.getD ((off + i) * sz + j) undef, by rw [hlen', hmsz], hpos, hsub, fun i e j x he hx => ?_, fun i e j x he hx => ?_⟩
        · obtain ⟨h1, h2⟩ := key i e j x he hx
          rw [show off * sz + (i * sz + j) = (off + i) * sz + j from by rw [Nat.add_mul]; omega, cell_of_row w _ _ us t (0, 0) hheap]
          simp [Array.getD_eq_getD_getElem?, h2]
        · obtain ⟨h1, h2⟩ := key i e j x he hx
          have := hrep (off + i) e j x us[(off + i) * sz + j] h1 hx (Array.getElem?_eq_getElem h2)
          simpa [Array.getD_eq_getD_getElem?, h2] using this
      · cases hc
    · cases hc
  | _ => simp [content] at hc

/-- append, whatever it is that is appended to: a row of one's own (its cells 'xs', its block 'row'), or nil. -/
theorem append_core (h : Rel I0 w0 m I s a w) {st2 : Store} (hk : Rel I0 w0 m I { s with st := st2 } a w) (hl2 : st2.length = s.st.length) {t e ty : TypeId} {i : TypeInfo} {z : Value} (ht : P.underlying t = some (.slice e)) (hi : P.info? e = some i) (hz : i.zero = some z) (hpos : 0 < i.size) (hzs : z.cells.size = i.size)
    {y : AV} {u : Value} {news old : List (List AV)} (hr : Rep m s.st.length I w y u) (hc : content s.st y = some news) (hne : news ≠ []) (hall : (news.all fun e => e.length == i.size) = true)
    {v : Value} {xs : List Value} (hown : w.ownsRow w0.heap.size e i.size v old.length xs) (hold : ∀ e ∈ old, EOk i.size e) (hxr : RowRep m s.st.length I w i.size old xs.toArray)
    (hvI : ∀ b, v.ownBlock = some b → ¬ I b) (hvm : ∀ b, v.ownBlock = some b → ∀ (id : Nat) (o : AObj), st2[id]? = some o → o ≠ .gone → (m id).nil = false → (m id).b ≠ b) (hsz : (old.length + news.length) * i.bytes ≤ maxRow) (hsz' : old.length + news.length ≤ maxRow) :
    ∃ u' w' m', (Builtin.append_ #[t, t] ty #[v, u]).run P w = .ok u' w' ∧ Rel I0 w0 m' I { s with st := st2 ++ [.row true e i.size (old ++ news)] } a w' ∧
      Rep m' (st2 ++ [AObj.row true e i.size (old ++ news)]).length I w' (.own s.st.length 0 (old.length + news.length)) u' := by
  obtain ⟨b, o, c, sz, vv, hu, hs, hok, hcell, hrep⟩ := src_cells h hr hc hne
  have hse : sz = i.size := by
    cases news with
    | nil => exact absurd rfl hne
    | cons e0 es =>
      have h3 := List.all_eq_true.1 hall e0 (by simp)
      have h4 := (hok e0 (by simp)).1
      simp at h3
      omega
  subst hse
  let nv : List Value := (List.range (news.length * i.size)).map fun q => vv (q / i.size) (q % i.size)
  have hnv : ∀ k j, k < news.length → j < i.size → nv[k * i.size + j]? = some (vv k j) := fun k j hk hj => by
    show ((List.range (news.length * i.size)).map fun q => vv (q / i.size) (q % i.size))[k * i.size + j]? = _
    rw [List.getElem?_map, List.getElem?_range (idx_lt hk hj)]
    have e1 : (k * i.size + j) / i.size = k := by rw [Nat.mul_comm, Nat.mul_add_div (by omega), Nat.div_eq_of_lt hj, Nat.add_zero]
    have e2 : (k * i.size + j) % i.size = j := by rw [Nat.mul_comm, Nat.mul_add_mod, Nat.mod_eq_of_lt hj]
    simp [e1, e2]
  have hnl : nv.length = news.length * i.size := by show (List.map _ _).length = _; simp
  have hat : ∀ q x, nv[q]? = some x → ∃ k j e c, k < news.length ∧ j < i.size ∧ q = k * i.size + j ∧ x = vv k j ∧ news[k]? = some e ∧ e[j]? = some c := fun q x hq => by
    have hlt : q < news.length * i.size := by have := (List.getElem?_eq_some_iff.1 hq).1; omega
    have hk : q / i.size < news.length := Nat.div_lt_of_lt_mul (by rw [Nat.mul_comm]; exact hlt)
    have hj : q % i.size < i.size := Nat.mod_lt _ hpos
    have hqe : q = q / i.size * i.size + q % i.size := by rw [Nat.mul_comm]; exact (Nat.div_add_mod q i.size).symm
    have hel : (news[q / i.size]'hk).length = i.size := (hok _ (List.getElem_mem hk)).1
    refine ⟨q / i.size, q % i.size, news[q / i.size], (news[q / i.size])[q % i.size]'(by omega), hk, hj, hqe, ?_, List.getElem?_eq_getElem hk, List.getElem?_eq_getElem _⟩
    have := hnv _ _ hk hj
    rw [← hqe, hq] at this
    exact Option.some.inj this
  obtain ⟨u', w', hrun, hown', hgr, hnil, hblk⟩ := run_append_own_at (P := P) w w0.heap.size t ty e i z i.size i.bytes ht hi hz rfl rfl hzs hpos v old.length xs hown ⟨b, o, none⟩ news.length c nv hnl
    (fun q x hq => by
      obtain ⟨k, j, e, c, _, _, rfl, rfl, he, hc⟩ := hat q x hq
      rw [add_lit']
      exact hcell k e j c he hc)
    (fun x hx => by
      obtain ⟨q, hq, rfl⟩ := List.mem_iff_getElem.1 hx
      obtain ⟨k, j, e, c, _, _, _, he', he, hc⟩ := hat q _ (List.getElem?_eq_getElem hq)
      rw [he']
      exact (hrep k e j c he hc).one ((hok e (List.mem_of_getElem? he)).2 c (List.mem_of_getElem? hc)).1)
    (by simp only [maxLen, maxRow] at *; omega) (by simp only [maxRow] at *; omega) h.bel.size
  have hpn : 0 < news.length := List.length_pos_iff.2 hne
  obtain ⟨hlx, hv'⟩ := hown'
  rcases hv' with ⟨_, h0⟩ | ⟨g, cap, cur, hu', hlo, hheap, hcap, hmax, hcsz, htake⟩
  · omega
  have hg : v.ownBlock = some g ∨ g = w.heap.size := by
    rcases hblk with hb | hb
    · left; rw [← hb, hu']; rfl
    · right; rw [hu'] at hb; simpa [Value.ownBlock] using hb
  have hIw : ∀ b, I b → w'.heap[b]? = w.heap[b]? := fun b hb => hgr.block b (h.imm b hb) (fun e => hvI b e.symm hb)
  have hnI : ¬ I g := fun hi => by
    rcases hg with hg | hg
    · exact hvI g hg hi
    · subst hg; exact Nat.lt_irrefl _ (h.imm _ hi)
  have hrel := hk.more2 (w' := w') (I' := I) ⟨g, cap, i.size, false⟩ (.row true e i.size (old ++ news)) hgr.size hgr.os hgr.tape hgr.output
    (fun k hk => hgr.block k (Nat.lt_of_lt_of_le hk h.bel.size) (fun e => by
      rcases hown.2 with ⟨rfl, _⟩ | ⟨g', cap', cur', rfl, hlo', _⟩
      · simp [Value.ownBlock] at e
      · simp [Value.ownBlock] at e; omega))
    (fun id o ho hg' hn => hgr.block _ (Obj.ok_lt (hk.obj id o ho) hg' hn) (fun e => hvm _ e.symm id o ho hg' hn rfl))
    (fun _ hb => hb) hIw (fun _ hb => .inl hb)
    (fun _ _ id o ho hl hn e => by
      rcases hg with hg | hg
      · exact hvm g hg id o ho (AObj.live_ne hl) hn e
      · have := Obj.ok_lt (hk.obj id o ho) (AObj.live_ne hl) hn
        simp only at e
        omega)
    (by
      unfold Obj.ok
      simp only [hl2]
      rw [updM_eq]
      refine .inr ⟨rfl, by simp only [if_true]; exact ⟨hlo, hnI⟩, rfl, hpos, by simpa using hcap, hmax, fun e' he' => ?_, cur, hheap, hcsz, fun k e' j x q hk hj hq => ?_⟩
      · rcases List.mem_append.1 he' with he' | he'
        · exact hold e' he'
        · exact hok e' he'
      · have hmono : ∀ {x : AV} {u : Value}, Rep m s.st.length I w x u → Rep (updM m s.st.length ⟨g, cap, i.size, false⟩) (s.st.length + 1) I w' x u := fun hh => hh.mono (by omega) (fun q hq => updM_lt hq) (fun _ hb => hb) hIw
        have hE : EOk i.size e' := by
          rcases List.mem_append.1 (List.mem_of_getElem? hk) with he' | he'
          · exact hold e' he'
          · exact hok e' he'
        have hj' : j < i.size := by have := (List.getElem?_eq_some_iff.1 hj).1; have := hE.1; omega
        have hkl : k < old.length + news.length := by have := (List.getElem?_eq_some_iff.1 hk).1; simpa using this
        have hcur : (xs ++ nv)[k * i.size + j]? = some q := by
          rw [← htake, List.getElem?_take_of_lt (idx_lt hkl hj'), Array.getElem?_toList]
          exact hq
        by_cases hko : k < old.length
        · rw [List.getElem?_append_left hko] at hk
          have hxl : xs.length = old.length * i.size := hown.1
          rw [List.getElem?_append_left (by rw [hxl]; exact idx_lt hko hj')] at hcur
          exact hmono (hxr k e' j x q hk hj (by simpa using hcur))
        · rw [List.getElem?_append_right (by omega)] at hk
          have hxl : xs.length = old.length * i.size := hown.1
          have hkm : k * i.size + j - xs.length = (k - old.length) * i.size + j := by
            rw [hxl, Nat.sub_mul]
            have : old.length * i.size ≤ k * i.size := Nat.mul_le_mul_right _ (by omega)
            omega
          rw [List.getElem?_append_right (by rw [hxl]; have : old.length * i.size ≤ k * i.size := Nat.mul_le_mul_right _ (by omega); omega), hkm, hnv _ _ (by omega) hj'] at hcur
          cases hcur
          exact hmono (hrep _ e' j x hk hj))
  simp only [hl2] at hrel
  refine ⟨u', w', _, by rw [hu]; exact hrun, hrel, ?_⟩
  have := Rep.own (m := updM m s.st.length ⟨g, cap, i.size, false⟩) (n := (st2 ++ [AObj.row true e i.size (old ++ news)]).length) (I := I) (w := w') s.st.length 0 (old.length + news.length) (by simp [hl2]) (by rw [updM_eq]; simpa using hcap) (by rw [updM_eq]; simp)
  rw [updM_eq, Loc.sl_not rfl] at this
  rw [hu']
  simpa using this

theorem ok_append_nils (h : Rel I0 w0 m I s a w) {o : Oper} {t e : TypeId} {i : TypeInfo} {z : Value} {x y : Operand} {x' y' : Opd} {news : List (List AV)} (ho : o.op = .call { callee := .builtin .append, args := #[x, y], argTypes := #[t, t] }) (ht : P.underlying t = some (.slice e)) (hi : P.info? e = some i) (hz : i.zero = some z) (hpos : 0 < i.size) (hzs : z.cells.size = i.size)
    (hx : compX x = some x') (hy : compX y = some y') (hv : s.ev x' = .nils) (hc : content s.st (s.ev y') = some news) (hne : news ≠ []) (hsz : news.length * i.bytes ≤ maxRow) (hb : 0 < i.bytes) (hall : (news.all fun e => e.length == i.size) = true) :
    OpOk P I0 w0 o a w s (.own s.st.length 0 news.length) (s.st ++ [.row true e i.size news]) := by
  have hrx := rep_compX h hx
  rw [hv] at hrx
  have hvx : a.eval x = .slice none 0 0 := by cases hq : a.eval x <;> rw [hq] at hrx <;> cases hrx; rfl
  obtain ⟨u', w', m', h1, h2, h3⟩ := append_core h h rfl (ty := o.type) ht hi hz hpos hzs (rep_compX h hy) hc hne hall (v := .slice none 0 0) (old := []) (xs := []) ⟨by simp, .inl ⟨rfl, rfl⟩⟩ (fun e he => by simp at he) (fun k e j x u hk => by simp at hk) (fun b hb => by simp [Value.ownBlock] at hb) (fun b hb => by simp [Value.ownBlock] at hb) (by simpa using hsz)
    (by have : news.length * 1 ≤ news.length * i.bytes := Nat.mul_le_mul_left _ hb; simp; omega)
  simp only [List.length_nil, Nat.zero_add, List.nil_append] at h2 h3
  refine ⟨_, u', w', m', I, ?_, .inl rfl, h2, h3⟩
  simp [execOp, ho, resolve, invoke, builtin, hvx, h1]

theorem ok_append_own (h : Rel I0 w0 m I s a w) {o : Oper} {t e : TypeId} {i : TypeInfo} {z : Value} {x y : Operand} {x' y' : Opd} {news es : List (List AV)} {id len : Nat} (ho : o.op = .call { callee := .builtin .append, args := #[x, y], argTypes := #[t, t] }) (ht : P.underlying t = some (.slice e)) (hi : P.info? e = some i) (hz : i.zero = some z) (hpos : 0 < i.size) (hzs : z.cells.size = i.size)
    (hx : compX x = some x') (hy : compX y = some y') (hv : s.ev x' = .own id 0 len) (hst : s.st[id]? = some (.row true e i.size es)) (hle : len ≤ es.length) (hc : content s.st (s.ev y') = some news) (hne : news ≠ []) (hsz : (len + news.length) * i.bytes ≤ maxRow) (hsz' : len + news.length ≤ maxRow) (hall : (news.all fun e => e.length == i.size) = true) :
    OpOk P I0 w0 o a w s (.own s.st.length 0 (len + news.length)) (s.st.set id .gone ++ [.row true e i.size (es.take len ++ news)]) := by
  have hrx := rep_compX h hx
  rw [hv] at hrx
  have hforms : Rep m s.st.length I w (.own id 0 len) (a.eval x) := hrx
  generalize hqx : a.eval x = u0 at hrx
  cases hrx with
  | own _ _ _ hid hl9 hn9 =>
  rcases h.obj id _ hst with ⟨hnil, hcap0, rfl⟩ | ⟨hnil, _, hmsz, _, hcap, hmax, hok, us, hheap, hus, hrep⟩
  · -- nil
    rw [Loc.sl_nil hnil] at hqx
    have hl0 : len = 0 := by simpa using hle
    subst hl0
    obtain ⟨u', w', m', h1, h2, h3⟩ := append_core h (h.kill id) (by simp) (ty := o.type) ht hi hz hpos hzs (rep_compX h hy) hc hne hall (v := .slice none 0 0) (old := []) (xs := []) ⟨by simp, .inl ⟨rfl, rfl⟩⟩ (fun e he => by simp at he) (fun k e j x u hk => by simp at hk) (fun b hb => by simp [Value.ownBlock] at hb) (fun b hb => by simp [Value.ownBlock] at hb) (by simpa using hsz) (by simpa using hsz')
    simp only [List.length_nil, List.nil_append] at h2 h3
    refine ⟨_, u', w', m', I, ?_, .inl rfl, by simpa using h2, by simpa using h3⟩
    simp [execOp, ho, resolve, invoke, builtin, hqx, h1]
  rw [Loc.sl_not hnil] at hqx
  obtain ⟨hlo, hnI⟩ := Obj.ok_live (h.obj id _ hst) rfl hnil
  have hlen : (es.take len).length = len := by simp; omega
  have hvx : a.eval x = .slice (some ⟨(m id).b, 0, none⟩) len (m id).cap := by rw [hqx]; simp
  have hown : w.ownsRow w0.heap.size e i.size (.slice (some ⟨(m id).b, 0, none⟩) len (m id).cap) (es.take len).length (us.toList.take (len * i.size)) := by
    rw [hlen]
    refine ⟨?_, .inr ⟨(m id).b, (m id).cap, us, rfl, hlo, hheap, by omega, hmax, hus, rfl⟩⟩
    have : len * i.size ≤ (m id).cap * i.size := Nat.mul_le_mul_right _ (by omega)
    simp
    omega
  obtain ⟨u', w', m', h1, h2, h3⟩ := append_core h (h.kill id) (by simp) (ty := o.type) ht hi hz hpos hzs (rep_compX h hy) hc hne hall (old := es.take len) hown (fun e' he => hok e' (List.mem_of_mem_take he))
    (fun k e' j x u hk hj hu => by
      have hkl : k < len := by have := (List.getElem?_eq_some_iff.1 hk).1; omega
      rw [List.getElem?_take_of_lt hkl] at hk
      have hj' : j < i.size := by have := (List.getElem?_eq_some_iff.1 hj).1; have := (hok e' (List.mem_of_getElem? hk)).1; omega
      rw [List.getElem?_toArray, List.getElem?_take_of_lt (idx_lt hkl hj'), Array.getElem?_toList] at hu
      exact hrep k e' j x u hk hj hu)
    (fun b hb => by simp [Value.ownBlock] at hb; subst hb; exact hnI)
    (fun b hb k o' hk hg hn => by
      simp [Value.ownBlock] at hb
      subst hb
      rw [List.getElem?_set] at hk
      by_cases hik : id = k
      · rw [if_pos hik, if_pos hid] at hk
        exact absurd (Option.some.inj hk).symm hg
      · rw [if_neg hik] at hk
        by_cases hl : o'.live
        · exact h.inj k id o' _ hk hst hl rfl hn hnil (fun e => hik e.symm)
        · intro he
          apply hnI
          rw [← he]
          exact Obj.ok_dead (h.obj k o' hk) hg hl hn)
    (by rw [hlen]; exact hsz) (by rw [hlen]; exact hsz')
  rw [hlen] at h3
  refine ⟨_, u', w', m', I, ?_, .inl rfl, h2, h3⟩
  simp [execOp, ho, resolve, invoke, builtin, hvx, h1]

end
end Go.Am
