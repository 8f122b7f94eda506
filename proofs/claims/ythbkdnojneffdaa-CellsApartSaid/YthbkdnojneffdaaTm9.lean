/- The typed machine: one operation, a region. -/
import Derived.Test.YthbkdnojneffdaaTm8
namespace Go.Am

/-- Specifications return no functions. -/
def FSpec.plain (sp : FSpec) : Prop := (∀ p, sp.rt = .one p → ∀ f, p ≠ .fn f) ∧ ∀ ps, sp.rt = .tup ps → ∀ p ∈ ps, ∀ f, p ≠ .fn f
def Env.plain (E : Env) : Prop := ∀ g sp, E.fn g = some sp → sp.plain

section
variable {P : Program} {E : Env} {s : AS} {ρ : Rn} {fr : List TV} {st : TStore} {k : TV → TStore → Prop}

theorem UnL_map_ev (hfr : UnL ρ st fr s.fr) : ∀ (xs : List Opd), UnL ρ st (xs.map (evT fr)) (xs.map s.ev)
  | [] => UnL_nil
  | x :: r => UnL_cons (UnV_ev hfr x) (UnL_map_ev hfr r)

theorem load_sound (hfr : UnL ρ st fr s.fr) (hst : UnSt ρ st s.st) {agg : Bool} {sz : Nat} {x : Opd} (h : tsem E (.load agg sz x) (evT fr) st False k) : TOk P (.load agg sz x) s ρ st k := by
  have hx := UnV_ev hfr x
  simp only [tsem] at h
  split at h
  · rename_i id off hv
    rw [hv] at hx
    split at h
    · rename_i t cs hi
      obtain ⟨v, hv, h⟩ := opt?_elim h
      obtain ⟨j, hj, e⟩ := UnV_ptr_blk hx hi
      obtain ⟨j', ys, b1, b2, b3⟩ := hst.blk hi
      rw [hj] at b1
      cases b1
      obtain ⟨y, g1, g2⟩ := UnV_getCells b3 hv
      exact TOk.same (x' := y) hst (by simp [opSem, semF, e, b2, g1]) h g2
    · exact h.elim
  · rename_i id i off hv
    rw [hv] at hx
    split at h
    · rename_i f t c l hi
      obtain ⟨e1, he1, h⟩ := opt?_elim h
      unfold getN at he1
      obtain ⟨v, hv, h⟩ := opt?_elim h
      obtain ⟨j, hj, e⟩ := UnV_rptr_row hx hi
      obtain ⟨f', es, b1, _⟩ := hst.row hi hj
      obtain ⟨y, g1, g2⟩ := UnV_getCells (UnL_enc (ρ := ρ) (st := st) c e1) hv
      have hg : (l.map (encA c) ++ es)[i]? = some (encA c e1) := by
        rw [List.getElem?_append_left (by simpa using (List.getElem?_eq_some_iff.1 he1).1), List.getElem?_map, he1]
        rfl
      exact TOk.same (x' := y) hst (by simp [opSem, semF, e, b1, hg, g1]) h g2
    · exact h.elim
  · rename_i c e1 off hv
    rw [hv] at hx
    obtain ⟨v, hv, h⟩ := opt?_elim h
    simp only [UnV] at hx
    obtain ⟨y, g1, g2⟩ := UnV_getCells (UnL_enc (ρ := ρ) (st := st) c e1) hv
    exact TOk.same (x' := y) hst (by simp [opSem, semF, hx, g1]) h g2
  · rename_i c o ho
    rw [ho] at hx
    obtain ⟨e1, he1, h1⟩ := opt?_elim h
    obtain ⟨v, hv, h2⟩ := opt?_elim h1
    rw [he1] at hx
    simp only [UnV] at hx
    obtain ⟨y, g1, g2⟩ := UnV_getCells (UnL_enc (ρ := ρ) (st := st) c e1) hv
    exact TOk.same (x' := y) hst (by simp [opSem, semF, hx, g1]) h2 g2
  · exact h.elim

theorem ia_sound (hfr : UnL ρ st fr s.fr) (hst : UnSt ρ st s.st) {sz : Nat} {x i : Opd} (h : tsem E (.ia sz x i) (evT fr) st False k) : TOk P (.ia sz x i) s ρ st k := by
  have hx := UnV_ev hfr x
  have hi' := UnV_ev hfr i
  simp only [tsem] at h
  split at h
  · rename_i kd n hn
    rw [hn] at hi'
    have hi' := UnV_int_inv hi'
    split at h
    · rename_i c l hv
      rw [hv] at hx
      obtain ⟨hz, h⟩ := cond_elim h
      obtain ⟨e1, he1, h⟩ := opt?_elim h
      obtain ⟨g1, g2, g3⟩ := getI_some he1
      rcases UnV_vs_inv hx with e | ⟨e, _⟩
      · refine TOk.same (x' := .eptr [encA c e1] 0 0) hst ?_ h UnV_eptr
        simp only [opSem, semF, e, hi', List.length_map, g1, g2, and_self, if_true, List.getElem?_map, g3, Option.map_some, encA_len]
        rw [if_pos (Nat.eq_of_beq_eq_true hz)]
      · subst e; simp at g3
    · rename_i id hv
      rw [hv] at hx
      split at h
      · rename_i f t c l hi
        obtain ⟨hz, h⟩ := cond_elim h
        obtain ⟨e1, he1, h⟩ := opt?_elim h
        obtain ⟨g1, g2, g3⟩ := getI_some he1
        rcases UnV_ow_row hx hi with ⟨hj, e⟩ | ⟨j, hj, e⟩
        · have := hst.row_nil hi hj
          subst this
          simp at g3
        · obtain ⟨f', es, b1, _⟩ := hst.row hi hj
          refine TOk.same (x' := .rptr j n.toNat 0) hst ?_ h (by simp only [UnV, hi]; exact ⟨j, hj, rfl⟩)
          simp only [opSem, semF, e, hi', b1]
          rw [if_pos ⟨g1, g2, Nat.eq_of_beq_eq_true hz⟩]
          simp
      · exact h.elim
    · exact h.elim
  · exact h.elim

theorem tsem_sound (hE : EnvOk P E) (hP : E.plain) (hfr : UnL ρ st fr s.fr) (hst : UnSt ρ st s.st) {op : AOp} (h : tsem E op (evT fr) st False k) : TOk P op s ρ st k := by
  cases op with
  | mov x => exact TOk.same (x' := s.ev x) hst (by simp only [opSem, semF]) h (UnV_ev hfr x)
  | pick c a b =>
    simp only [tsem] at h
    split at h
    · rename_i t hv
      have hc := UnV_ev hfr c
      rw [hv] at hc
      have hc := UnV_b_inv hc
      cases t with
      | true => exact TOk.same (x' := s.ev a) hst (by simp only [opSem, semF, hc, cond_true]) h (UnV_ev hfr a)
      | false => exact TOk.same (x' := s.ev b) hst (by simp only [opSem, semF, hc, cond_false]) h (UnV_ev hfr b)
    · exact h.elim
  | new t z =>
    simp only [tsem] at h
    exact ⟨.ptr s.st.length 0, s.st ++ [.blk t z], updR ρ st.length (some s.st.length), _, _, by simp only [opSem, semF], h, Keep.push _ _, UnV_ptr_new t _ rfl, hst.push ⟨z, rfl, UnL_ofC z⟩⟩
  | box t x =>
    simp only [tsem] at h
    obtain ⟨cs, hcs, h⟩ := opt?_elim h
    obtain ⟨ys, g1, g2⟩ := UnV_cells hcs (UnV_ev hfr x)
    exact ⟨.ptr s.st.length 0, s.st ++ [.blk t ys], updR ρ st.length (some s.st.length), _, _, by simp only [opSem, semF, g1], h, Keep.push _ _, UnV_ptr_new t _ rfl, hst.push ⟨ys, rfl, g2⟩⟩
  | build z parts =>
    simp only [tsem] at h
    obtain ⟨cs, hcs, h⟩ := opt?_elim h
    obtain ⟨ys, g1, g2⟩ := fill_sound hfr (UnL_ofC z) hcs
    exact TOk.same (x' := .agg ys) hst (by simp only [opSem, semF, g1, Option.map_some]) h (by simp only [UnV]; exact ⟨ys, rfl, g2⟩)
  | bslice t sz len z parts =>
    simp only [tsem] at h
    split at h
    · rename_i c hc
      obtain ⟨hz, h⟩ := cond_elim h
      obtain ⟨p, hp, h⟩ := opt?_elim h
      simp only [Bool.and_eq_true] at hz
      have hsz := Nat.eq_of_beq_eq_true hz.1
      have hlen := Nat.eq_of_beq_eq_true hz.2
      obtain ⟨ids', g1, g2⟩ := parts_sound hfr hst (pre := []) (es := List.replicate len z) (sz := sz) hp hsz.symm rfl (by simp [hlen])
      simp only [List.nil_append] at g1
      have hpl : p.1.length = len := by
        have key : ∀ (ps : List (Nat × Opd)) (i : Nat) (p : List (El c) × List Nat), partsT (evT fr) st c i ps = some p → p.1.length = ps.length := by
          intro ps
          induction ps with
          | nil => intro i p hp; simp only [partsT, Option.some.injEq] at hp; subst hp; rfl
          | cons q r ih =>
            intro i p hp
            obtain ⟨j, x⟩ := q
            simp only [partsT] at hp
            cases hb : Nat.beq i j with
            | false => rw [hb] at hp; cases hp
            | true =>
              rw [hb] at hp
              simp only [cond_true] at hp
              split at hp
              · split at hp
                · split at hp
                  · split at hp
                    · rename_i p' hp'
                      cases hp
                      simp [ih _ _ hp']
                    · cases hp
                  · cases hp
                · cases hp
              · cases hp
        rw [key _ _ _ hp, hlen]
      have hq := (hst.freeze g2).push (o := .row true t c p.1) (o' := .row true t sz (p.1.map (encA c))) ⟨true, [], by simp [hsz], fun _ => rfl⟩
      have hl : (freeze ids' s.st).length = s.st.length := by simp [freeze]
      rw [freezeT_len, hl] at hq
      refine ⟨.own s.st.length 0 p.1.length, _, updR ρ st.length (some s.st.length), _, _, ?_, h, ?_, UnV_ow_new (freezeT_len _ _).symm, hq⟩
      · simp only [opSem, semF, g1, hpl]
      · have k1 : Keep ρ ρ st (freezeT p.2 st) := Keep.freeze _
        have k2 : Keep ρ (updR ρ (freezeT p.2 st).length (some s.st.length)) (freezeT p.2 st) (freezeT p.2 st ++ [.row true t c p.1]) := Keep.push _ _
        rw [freezeT_len] at k2
        exact k1.trans k2
    · exact h.elim
  | load agg sz x => exact load_sound hfr hst h
  | store sz x y =>
    simp only [tsem] at h
    split at h
    · rename_i id off hv
      split at h
      · rename_i t cs hi
        obtain ⟨new, hnew, h⟩ := opt?_elim h
        obtain ⟨hb, h⟩ := cond_elim h
        simp only [Bool.and_eq_true] at hb
        have hx := UnV_ev hfr x
        rw [hv] at hx
        obtain ⟨j, hj, e⟩ := UnV_ptr_blk hx hi
        obtain ⟨j', ys, b1, b2, b3⟩ := hst.blk hi
        rw [hj] at b1
        cases b1
        obtain ⟨zs, g1, g2⟩ := UnV_cells hnew (UnV_ev hfr y)
        obtain ⟨u1, u2⟩ := hst.turn (o1 := .blk t (spliceT cs off new)) (o' := .blk t (splice ys off zs)) hi (by simp) (by simp [sameK]) hj ⟨_, rfl, UnL_splice off b3 g2⟩
        refine ⟨.v undef, _, ρ, _, _, ?_, h, u2, by simp only [UnV], u1⟩
        simp only [opSem, semF, e, g1, b2]
        rw [if_pos ⟨by rw [UnL_len g2]; exact Nat.eq_of_beq_eq_true hb.1.1, by rw [UnL_len b3]; exact Nat.le_of_ble_eq_true hb.1.2, UnL_one hb.2 g2⟩]
      · exact h.elim
    · exact h.elim
  | bin op t x y =>
    simp only [tsem] at h
    have hx := UnV_ev hfr x
    have hy := UnV_ev hfr y
    split at h
    · rename_i k1 a ha
      split at h
      · rename_i k2 b hb
        rw [ha] at hx
        rw [hb] at hy
        have hx := UnV_int_inv hx
        have hy := UnV_int_inv hy
        obtain ⟨v, q, g1, g2, g3⟩ := ibin_sound (P := P) (ρ := ρ) (st := st) t h
        exact TOk.same (x' := .v v) hst (by simp [opSem, semF, hx, hy, scalar, g1]) g2 g3
      · exact h.elim
    · rename_i a ha
      split at h
      · rename_i b hb
        rw [ha] at hx
        rw [hb] at hy
        have hx := UnV_s_inv hx
        have hy := UnV_s_inv hy
        obtain ⟨v, q, g1, g2, g3⟩ := sbin_sound (P := P) (ρ := ρ) (st := st) t h
        exact TOk.same (x' := .v v) hst (by simp [opSem, semF, hx, hy, scalar, g1]) g2 g3
      · exact h.elim
    · exact h.elim
  | eqb neg x y =>
    simp only [tsem] at h
    have hx := UnV_ev hfr x
    have hy := UnV_ev hfr y
    split at h
    · rename_i a ha
      split at h
      · rename_i b hb
        rw [ha] at hx
        rw [hb] at hy
        have hx := UnV_b_inv hx
        have hy := UnV_b_inv hy
        exact TOk.same (x' := .v (.bool (if neg then a != b else a == b))) hst (by simp only [opSem, semF, hx, hy]) h (by cases neg <;> exact UnV_b)
      · exact h.elim
    · exact h.elim
  | eqs neg t x y =>
    simp only [tsem] at h
    have hx := UnV_ev hfr x
    have hy := UnV_ev hfr y
    split at h
    · rename_i cs ha
      split at h
      · rename_i ds hb
        split at h
        · rename_i ks hks
          obtain ⟨q, hq, h⟩ := opt?_elim h
          rw [ha] at hx
          rw [hb] at hy
          obtain ⟨ys, ex, hx⟩ := UnV_agg_inv hx
          obtain ⟨zs, ey, hy⟩ := UnV_agg_inv hy
          obtain ⟨us, vs, e1, e2, e3⟩ := eqT_sound ks hq hx hy
          have := hE.eq t ks hks us vs q e3
          exact TOk.same (x' := .v (.bool (if neg then !q else q))) hst (by simp only [opSem, semF, ex, ey, e1, e2, this, Option.map_some]) h (by cases neg <;> exact UnV_b)
        · exact h.elim
      · exact h.elim
    · exact h.elim
  | un op x =>
    simp only [tsem] at h
    have hx := UnV_ev hfr x
    split at h
    · rename_i a ha
      rw [ha] at hx
      have hx := UnV_b_inv hx
      exact TOk.same (x' := .v (.bool (!a))) hst (by simp only [opSem, semF, hx]; rfl) h UnV_b
    · exact h.elim
  | conv kd x =>
    simp only [tsem] at h
    have hx := UnV_ev hfr x
    split at h
    · rename_i k1 n ha
      rw [ha] at hx
      have hx := UnV_int_inv hx
      exact TOk.same (x' := .v (.int kd (kd.wrap n))) hst (by simp only [opSem, semF, hx]) h UnV_int
    · exact h.elim
  | fa off x =>
    simp only [tsem] at h
    have hx := UnV_ev hfr x
    split at h
    · rename_i id o ha
      rw [ha] at hx
      simp only [UnV] at hx
      split at hx
      · rename_i t cs hi
        obtain ⟨j, hj, hx⟩ := hx
        exact TOk.same (x' := .ptr j (o + off)) hst (by simp only [opSem, semF, hx]) h (by simp only [UnV, hi]; exact ⟨j, hj, rfl⟩)
      · rename_i o' hne hi
        obtain ⟨j, hx⟩ := hx
        refine TOk.same (x' := .ptr j (o + off)) hst (by simp only [opSem, semF, hx]) h ?_
        simp only [UnV, hi]
        exact ⟨j, rfl⟩
      · exact hx.elim
    · rename_i id i o ha
      rw [ha] at hx
      simp only [UnV] at hx
      split at hx
      · rename_i f t c l hi
        obtain ⟨j, hj, hx⟩ := hx
        exact TOk.same (x' := .rptr j i (o + off)) hst (by simp only [opSem, semF, hx]) h (by simp only [UnV, hi]; exact ⟨j, hj, rfl⟩)
      · rename_i o' hne hi
        obtain ⟨j, hx⟩ := hx
        refine TOk.same (x' := .rptr j i (o + off)) hst (by simp only [opSem, semF, hx]) h ?_
        simp only [UnV, hi]
        exact ⟨j, rfl⟩
      · exact hx.elim
    · rename_i c e1 o ha
      rw [ha] at hx
      simp only [UnV] at hx
      exact TOk.same (x' := .eptr [encA c e1] 0 (o + off)) hst (by simp only [opSem, semF, hx]) h UnV_eptr
    · rename_i c o ha
      rw [ha] at hx
      obtain ⟨e1, he1, h⟩ := opt?_elim h
      rw [he1] at hx
      simp only [UnV] at hx
      exact TOk.same (x' := .eptr [encA c e1] 0 off) hst (by simp only [opSem, semF, hx, Nat.zero_add]) h UnV_eptr
    · exact h.elim
  | ia sz x i => exact ia_sound hfr hst h
  | len x =>
    simp only [tsem] at h
    have hx := UnV_ev hfr x
    split at h
    · rename_i c l ha
      rw [ha] at hx
      rcases UnV_vs_inv hx with e | ⟨e0, e⟩
      · exact TOk.same (x' := .v (.int .i64 l.length)) hst (by simp only [opSem, semF, e, List.length_map]) h UnV_int
      · subst e0
        exact TOk.same (x' := .v (.int .i64 0)) hst (by simp only [opSem, semF, e]) h UnV_int
    · rename_i i ha
      rw [ha] at hx
      split at h
      · rename_i f t c l hi
        rcases UnV_ow_row hx hi with ⟨hj, e⟩ | ⟨j, hj, e⟩
        · have := hst.row_nil hi hj
          subst this
          exact TOk.same (x' := .v (.int .i64 0)) hst (by simp only [opSem, semF, e]) h UnV_int
        · exact TOk.same (x' := .v (.int .i64 l.length)) hst (by simp only [opSem, semF, e]) h UnV_int
      · exact h.elim
    · rename_i i o n ha
      rw [ha] at hx
      split at h
      · rename_i f t c l hi
        obtain ⟨hle, hc⟩ := UnV_own_row hx hi
        rcases hc with ⟨hj, e⟩ | ⟨j, hj, e⟩
        · have := hst.row_nil hi hj
          subst this
          have n0 : n = 0 := by simp at hle; omega
          subst n0
          exact TOk.same (x' := .v (.int .i64 0)) hst (by simp only [opSem, semF, e]) h UnV_int
        · exact TOk.same (x' := .v (.int .i64 n)) hst (by simp only [opSem, semF, e]) h UnV_int
      · exact h.elim
    · rename_i ha
      rw [ha] at hx
      simp only [UnV] at hx
      exact TOk.same (x' := .v (.int .i64 0)) hst (by simp only [opSem, semF, hx]) h UnV_int
    · exact h.elim
  | lens x =>
    simp only [tsem] at h
    have hx := UnV_ev hfr x
    split at h
    · rename_i b ha
      rw [ha] at hx
      have hx := UnV_s_inv hx
      exact TOk.same (x' := .v (.int .i64 b.size)) hst (by simp only [opSem, semF, hx]) h UnV_int
    · exact h.elim
  | slice sz x lo hi =>
    simp only [tsem] at h
    obtain ⟨a, h, ha⟩ := optN_sound hfr h
    obtain ⟨b, h, hb⟩ := optN_sound hfr h
    exact slice_sound hfr hst ha hb h
  | append t sz bytes x y => exact append_sound hfr hst h
  | field agg sz off x =>
    simp only [tsem] at h
    have hx := UnV_ev hfr x
    split at h
    · rename_i cs ha
      rw [ha] at hx
      obtain ⟨ys, e, hx⟩ := UnV_agg_inv hx
      obtain ⟨v, hv, h⟩ := opt?_elim h
      obtain ⟨y, g1, g2⟩ := UnV_getCells hx hv
      exact TOk.same (x' := y) hst (by simp [opSem, semF, e, g1]) h g2
    · exact h.elim
  | extract x i =>
    simp only [tsem] at h
    have hx := UnV_ev hfr x
    split at h
    · rename_i cs ha
      rw [ha] at hx
      obtain ⟨ys, e, hx⟩ := UnV_tup_inv hx
      obtain ⟨v, hv, h⟩ := opt?_elim h
      obtain ⟨y, g1, g2⟩ := UnL_get hx hv
      exact TOk.same (x' := y) hst (by simp only [opSem, semF, e, g1]) h g2
    · exact h.elim
  | call v g xs => exact call_sound hE hst (UnL_map_ev hfr xs) h (fun sp hsp => (hP g sp hsp).1) (fun sp hsp => (hP g sp hsp).2)

end
end Go.Am
