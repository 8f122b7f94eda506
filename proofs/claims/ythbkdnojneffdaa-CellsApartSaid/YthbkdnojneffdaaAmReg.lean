/- The abstract machine: regions, in the order of the text and in any order that they allow. -/
import Derived.Test.YthbkdnojneffdaaAmCall
import Derived.Orders
namespace Go.Am
open Go.RowKit

/-- Whether an operation is wanted. -/
def wantedA (o : AOper) (s : AS) : Option Bool :=
  match o.guard with
  | none => some true
  | some (d, want) => match s.fr.getD d (.v undef) with
    | .v (.bool b) => some (b == want)
    | .v (.tuple _) => some false
    | _ => none

/-- What an operation leaves, wanted or not. -/
def eff (P : Program) (o : AOper) (s : AS) (x : AV) (st' : Store) : Prop :=
  (wantedA o s = some true ∧ opSem P o.op s x st') ∨ (wantedA o s = some false ∧ x = .v undef ∧ st' = s.st)

def operR (P : Program) (o : AOper) (s s' : AS) : Prop := ∃ x st', eff P o s x st' ∧ s' = ({ s with st := st' } : AS).put o.dst x

def opsR (P : Program) : List AOper → AS → AS → Prop
  | [], s, s' => s' = s
  | o :: r, s, s' => ∃ s1, operR P o s s1 ∧ opsR P r s1 s'

section
variable {P : Program} {I0 : Nat → Prop} {w0 : World} {s s' : AS} {a : Act} {w : World} {ops : Array Oper}

theorem compOper_parts {o : Oper} {ao : AOper} (h : compOper P ops o = some ao) : compOp P o.op = some ao.op ∧ ao.dst = o.dst ∧ ao.after = (o.after.toList.filter (Region.binds .any)).map (·.on) ∧
    ((o.guard = none ∧ ao.guard = none) ∨ ∃ j want d, o.guard = some (j, want) ∧ (ops[j]?).bind (·.dst) = some d ∧ ao.guard = some (d, want)) := by
  unfold compOper at h
  split at h
  · cases h
  · rename_i x hx
    split at h
    · rename_i hg
      cases h
      exact ⟨hx, rfl, rfl, .inl ⟨hg, rfl⟩⟩
    · rename_i j want hg
      split at h
      · rename_i d hd
        cases h
        exact ⟨hx, rfl, rfl, .inr ⟨j, want, d, hg, hd, rfl⟩⟩
      · cases h

theorem wanted_ok {m : LMap} {I : Nat → Prop} (h : Rel I0 w0 m I s a w) {o : Oper} {ao : AOper} (hc : compOper P ops o = some ao) {b : Bool} (hw : wantedA ao s = some b) : Region.wanted o (yielded ops a.tmps) = b := by
  obtain ⟨_, _, _, hg⟩ := compOper_parts hc
  rcases hg with ⟨h1, h2⟩ | ⟨j, want, d, h1, h2, h3⟩
  · simp only [wantedA, h2, Option.some.injEq] at hw
    subst hw
    simp [Region.wanted, h1]
  · simp only [wantedA, h3] at hw
    have hr := h.eval d
    simp only [Region.wanted, h1, yielded, h2, Option.bind_some]
    split at hw
    · rename_i b' he
      rw [he] at hr
      have hv := hr.v_inv
      simp only [Option.some.injEq] at hw
      subst hw
      cases hq : a.tmps[d]? with
      | none => simp [hq, undef] at hv
      | some u => simp [hq] at hv; subst hv; simp
    · rename_i l he
      rw [he] at hr
      have hv := hr.v_inv
      simp only [Option.some.injEq] at hw
      subst hw
      cases hq : a.tmps[d]? with
      | none => simp
      | some u => simp [hq] at hv; subst hv; simp
    · cases hw

/-- One operation of a region. -/
theorem wp_oper (h : Good I0 w0 s a w) {o : Oper} {ao : AOper} (hc : compOper P ops o = some ao) (hr : operR P ao s s') {K : Act → World → Prop} {Q : Exit → Act → World → Prop} (hK : ∀ a' w', Good I0 w0 s' a' w' → K a' w') :
    if Region.wanted o (yielded ops a.tmps) then o.wp P a w K Q ∨ (o.asks P a w ∧ LetsOut Q) else K (a.put o.dst undef) w := by
  obtain ⟨x, st', he, rfl⟩ := hr
  obtain ⟨h1, h2, _⟩ := compOper_parts hc
  rw [h2] at hK
  rcases he with ⟨hw, hs⟩ | ⟨hw, rfl, rfl⟩
  · obtain ⟨m, I, hrel⟩ := h
    rw [wanted_ok hrel hc hw, if_pos rfl]
    exact .inl (wp_opSem ⟨m, I, hrel⟩ h1 hs hK)
  · obtain ⟨m, I, hrel⟩ := h
    rw [wanted_ok hrel hc hw, if_neg (by simp)]
    exact hK _ _ ⟨m, I, hrel.put o.dst (.v _)⟩

theorem compOpers_get : ∀ {l : List Oper} {as : List AOper}, compOpers P ops l = some as → as.length = l.length ∧ ∀ (i : Nat) (o : Oper), l[i]? = some o → ∃ ao, as[i]? = some ao ∧ compOper P ops o = some ao
  | [], as, h => by simp [compOpers] at h; subst h; exact ⟨rfl, fun i o ho => by simp at ho⟩
  | o :: r, as, h => by
    simp only [compOpers] at h
    split at h
    · rename_i ao as' h1 h2
      cases h
      obtain ⟨h3, h4⟩ := compOpers_get h2
      refine ⟨by simp [h3], fun i o' ho => ?_⟩
      cases i with
      | zero => simp at ho; subst ho; exact ⟨ao, by simp, h1⟩
      | succ i => simpa using h4 i o' (by simpa using ho)
    · cases h

/-- The region in the order of its text. -/
theorem wpOps_text {as : List AOper} (hc : compOpers P ops ops.toList = some as) {Q : Exit → Act → World → Prop} : ∀ (n k : Nat) (s : AS) (a : Act) (w : World), k + n = ops.size → Good I0 w0 s a w → opsR P (as.drop k) s s' →
    (∀ a' w', Good I0 w0 s' a' w' → Q .normal a' w') → wpOps P ops Q (List.range' k n) a w
  | 0, k, s, a, w, hk, hg, hr, hQ => by
    have : as.drop k = [] := List.drop_eq_nil_of_le (by rw [(compOpers_get hc).1]; simp; omega)
    rw [this] at hr
    simp only [opsR] at hr
    subst hr
    simpa [wpOps] using hQ a w hg
  | n + 1, k, s, a, w, hk, hg, hr, hQ => by
    have hlt : k < ops.size := by omega
    obtain ⟨hl, hget⟩ := compOpers_get hc
    obtain ⟨ao, h1, h2⟩ := hget k ops[k] (by simp [hlt])
    have hd : as.drop k = ao :: as.drop (k + 1) := by
      have hka : k < as.length := (List.getElem?_eq_some_iff.1 h1).1
      rw [List.drop_eq_getElem_cons hka]
      congr 1
      exact (List.getElem?_eq_some_iff.1 h1).2
    rw [hd] at hr
    obtain ⟨s1, hr1, hr2⟩ := hr
    rw [List.range'_succ]
    simp only [wpOps, Array.getElem?_eq_getElem hlt]
    have := wp_oper (Q := Q) (K := wpOps P ops Q (List.range' (k + 1) n)) hg h2 hr1 (fun a' w' hg' => wpOps_text hc n (k + 1) s1 a' w' (by omega) hg' hr2 hQ)
    exact this

theorem wp_region_text {id : Nat} {as : List AOper} (hc : compOpers P ops ops.toList = some as) {Q : Exit → Act → World → Prop} (hg : Good I0 w0 s a w) (hr : opsR P as s s') (hQ : ∀ a' w', Good I0 w0 s' a' w' → Q .normal a' w') :
    (Code.region id ops false).wp P Q a w := by
  refine wp_region ?_
  have := wpOps_text (Q := Q) hc ops.size 0 s a w (by omega) hg (by simpa using hr) hQ
  rwa [← List.range_eq_range'] at this

end

/-! ### Regions that draw their order -/

def Opd.slots : Opd → List Nat
  | .t n => [n]
  | .c _ => []

def AOp.opds : AOp → List Opd
  | .mov x | .box _ x | .load _ _ x | .un _ x | .conv _ x | .fa _ x | .len x | .lens x | .field _ _ _ x | .extract x _ => [x]
  | .pick c a b => [c, a, b]
  | .new _ _ => []
  | .build _ ps => ps.map (·.2.2)
  | .bslice _ _ _ _ ps => ps.map (·.2)
  | .store _ x y | .bin _ _ x y | .eqb _ x y | .eqs _ _ x y | .ia _ x y | .append _ _ _ x y => [x, y]
  | .slice _ x lo hi => x :: (lo.toList ++ hi.toList)
  | .call _ _ xs => xs

def AOper.looks (o : AOper) : List Nat := o.op.opds.flatMap Opd.slots ++ (match o.guard with | some (d, _) => [d] | none => [])

/-- 0: of the frame alone; 1: reads objects; 2: adds objects; 3: changes objects. -/
def AOp.cls : AOp → Nat
  | .load .. | .ia .. | .slice .. => 1
  | .new .. | .box .. | .bslice .. => 2
  | .call v _ _ => cond v 1 2
  | .store .. | .append .. => 3
  | _ => 0

def indep (x y : AOper) : Bool :=
  (match x.dst with | some d => !y.looks.contains d && y.dst != some d | none => true) &&
  (match y.dst with | some d => !x.looks.contains d | none => true) &&
  (x.op.cls == 0 || y.op.cls == 0 || (x.op.cls == 1 && y.op.cls ≤ 2) || (x.op.cls == 2 && y.op.cls == 1))

section
variable {P : Program} {s s' : AS}

/-- The meaning asks the operands alone. -/
theorem fillA_congr {ρ ρ' : Opd → AV} : ∀ (ps : List (Nat × Nat × Opd)) (z : List AV), (∀ y ∈ ps.map (·.2.2), ρ y = ρ' y) → fillA ρ z ps = fillA ρ' z ps
  | [], _, _ => rfl
  | (o, n, x) :: r, z, h => by
    simp only [fillA, h x (by simp)]
    split
    · split
      · exact fillA_congr r _ (fun y hy => h y (by simp at hy ⊢; exact .inr hy))
      · rfl
    · rfl

theorem partsA_congr {ρ ρ' : Opd → AV} (st : Store) (sz : Nat) : ∀ (ps : List (Nat × Opd)) (es : List (List AV)), (∀ y ∈ ps.map (·.2), ρ y = ρ' y) → partsA ρ st sz es ps = partsA ρ' st sz es ps
  | [], _, _ => rfl
  | (i, x) :: r, es, h => by
    simp only [partsA, h x (by simp)]
    split
    · split
      · split
        · rw [partsA_congr st sz r _ (fun y hy => h y (by simp at hy ⊢; exact .inr hy))]
        · rfl
      · rfl
    · rfl

theorem optI_congr {ρ ρ' : Opd → AV} {x : Option Opd} {d : Int} (h : ∀ y ∈ x.toList, ρ y = ρ' y) : optI ρ x d = optI ρ' x d := by
  cases x with
  | none => rfl
  | some y => simp only [optI, h y (by simp)]

theorem semF_congr {ρ ρ' : Opd → AV} (o : AOp) (st : Store) (h : ∀ y ∈ o.opds, ρ y = ρ' y) : semF P o ρ st = semF P o ρ' st := by
  cases o with
  | build z ps => simp only [semF, fillA_congr ps z h]
  | bslice t sz len z ps => simp only [semF, partsA_congr st sz ps _ h]
  | slice sz x lo hi =>
    have h1 : ∀ d, optI ρ lo d = optI ρ' lo d := fun d => optI_congr fun y hy => h y (by simp only [AOp.opds, List.mem_cons, List.mem_append]; exact .inr (.inl hy))
    have h2 : ∀ d, optI ρ hi d = optI ρ' hi d := fun d => optI_congr fun y hy => h y (by simp only [AOp.opds, List.mem_cons, List.mem_append]; exact .inr (.inr hy))
    simp only [semF, h x (by simp [AOp.opds]), h1, h2]
  | call v f xs => rfl
  | new t z => rfl
  | pick c a b => simp only [semF, h c (by simp [AOp.opds]), h a (by simp [AOp.opds]), h b (by simp [AOp.opds])]
  | store sz x y => simp only [semF, h x (by simp [AOp.opds]), h y (by simp [AOp.opds])]
  | bin op t x y => simp only [semF, h x (by simp [AOp.opds]), h y (by simp [AOp.opds])]
  | eqb n x y => simp only [semF, h x (by simp [AOp.opds]), h y (by simp [AOp.opds])]
  | eqs n t x y => simp only [semF, h x (by simp [AOp.opds]), h y (by simp [AOp.opds])]
  | ia sz x y => simp only [semF, h x (by simp [AOp.opds]), h y (by simp [AOp.opds])]
  | append t sz b x y => simp only [semF, h x (by simp [AOp.opds]), h y (by simp [AOp.opds])]
  | _ => simp only [semF, h _ (by simp [AOp.opds]; try rfl)]

theorem opSem_congr {o : AOp} {fr' : List AV} {x : AV} {st' : Store} (h : ∀ y ∈ o.opds, s.ev y = AS.ev { fr := fr', st := s.st } y) (hs : opSem P o s x st') : opSem P o { fr := fr', st := s.st } x st' := by
  cases o with
  | call v f xs =>
    simp only [opSem] at hs ⊢
    rwa [show xs.map (AS.ev { fr := fr', st := s.st }) = xs.map s.ev from List.map_congr_left fun y hy => (h y hy).symm]
  | _ =>
    simp only [opSem] at hs ⊢
    rw [← semF_congr _ _ h]
    exact hs

/-- The store has grown: what was there is there, frozen perhaps. -/
def Ext (st st2 : Store) : Prop := st.length ≤ st2.length ∧ ∀ (id : Nat) (o : AObj), st[id]? = some o → st2[id]? = some o ∨ st2[id]? = some o.freeze

theorem Ext.refl (st : Store) : Ext st st := ⟨Nat.le_refl _, fun _ _ h => .inl h⟩
theorem Ext.snoc (st : Store) (o : AObj) : Ext st (st ++ [o]) := ⟨by simp, fun id x h => .inl (by rw [List.getElem?_append_left (List.getElem?_eq_some_iff.1 h).1]; exact h)⟩
theorem Ext.frz (st : Store) (ids : List Nat) : Ext st (freeze ids st) := ⟨by simp [freeze], fun id o h => by
  simp only [freeze, List.getElem?_mapIdx, h, Option.map_some]
  by_cases hin : id ∈ ids
  · right; simp [hin]
  · left; simp [hin]⟩
theorem Ext.frz_snoc (st : Store) (ids : List Nat) (o : AObj) : Ext st (freeze ids st ++ [o]) := ⟨by simp [freeze], fun id x h => by
  have hlt : id < (freeze ids st).length := by have := (List.getElem?_eq_some_iff.1 h).1; simpa [freeze] using this
  rw [List.getElem?_append_left hlt]
  exact (Ext.frz st ids).2 id x h⟩

theorem cls2_ext {o : AOp} (hc : o.cls = 2) {x : AV} {st' : Store} (h : opSem P o s x st') : Ext s.st st' := by
  cases o with
  | call v f xs =>
    simp only [opSem] at h
    cases h.1 with
    | lend => exact Ext.refl _
    | pure => exact Ext.frz _ _
    | lendF => exact Ext.snoc _ _
    | fresh => exact Ext.frz_snoc _ _ _
  | new t z => simp only [opSem, semF, Option.some.injEq, Prod.mk.injEq] at h; rw [← h.2]; exact Ext.snoc _ _
  | box t y =>
    simp only [opSem, semF] at h
    split at h
    · cases h; exact Ext.snoc _ _
    · cases h
  | bslice t sz len z ps =>
    simp only [opSem, semF] at h
    split at h
    · cases h; exact Ext.frz_snoc _ _ _
    · cases h
  | _ => simp [AOp.cls] at hc

theorem cls0_any {o : AOp} (hc : o.cls = 0) {x : AV} {st' : Store} (h : opSem P o s x st') : st' = s.st ∧ ∀ st2 : Store, opSem P o { s with st := st2 } x st2 := by
  have conv : ∀ (q : Option AV), q.map (·, s.st) = some (x, st') → st' = s.st ∧ ∀ st2 : Store, q.map (·, st2) = some (x, st2) := fun q hq => by
    simp only [Option.map_eq_some_iff] at hq
    obtain ⟨y, hy, he⟩ := hq
    cases he
    exact ⟨rfl, fun st2 => by simp [hy]⟩
  have hev : ∀ st2 y, AS.ev { s with st := st2 } y = s.ev y := fun st2 y => by cases y <;> rfl
  cases o with
  | mov y => simp only [opSem, semF, Option.some.injEq, Prod.mk.injEq] at h ⊢; exact ⟨h.2.symm, fun st2 => ⟨(hev st2 y).trans h.1, trivial⟩⟩
  | pick c a b =>
    simp only [opSem, semF] at h ⊢
    split at h
    · rename_i t ht
      cases h
      exact ⟨rfl, fun st2 => by simp only [hev, ht]⟩
    · cases h
  | build z ps =>
    simp only [opSem, semF, Option.map_eq_some_iff] at h
    obtain ⟨cs, hcs, he⟩ := h
    cases he
    refine ⟨rfl, fun st2 => ?_⟩
    simp only [opSem, semF]
    rw [fillA_congr (ρ' := s.ev) ps z (fun y _ => hev st2 y), hcs]
    rfl
  | bin op t y z =>
    simp only [opSem, semF] at h ⊢
    split at h
    · rename_i u v hu hv
      split at h
      · rename_i hsc
        simp only [Option.map_eq_some_iff] at h
        obtain ⟨r, hr, he⟩ := h
        cases he
        exact ⟨rfl, fun st2 => by simp only [hev, hu, hv, hsc, if_true, hr, Option.map_some]⟩
      · cases h
    · cases h
  | eqb n y z =>
    simp only [opSem, semF] at h ⊢
    split at h
    · rename_i u v hu hv
      cases h
      exact ⟨rfl, fun st2 => by simp only [hev, hu, hv]⟩
    · cases h
  | eqs n t y z =>
    simp only [opSem, semF] at h ⊢
    split at h
    · rename_i cs ds hu hv
      split at h
      · rename_i us vs hus hvs
        simp only [Option.map_eq_some_iff] at h
        obtain ⟨r, hr, he⟩ := h
        cases he
        exact ⟨rfl, fun st2 => by simp only [hev, hu, hv, hus, hvs, hr, Option.map_some]⟩
      · cases h
    · cases h
  | un op y =>
    simp only [opSem, semF] at h ⊢
    split at h
    · rename_i u hu
      simp only [Option.map_eq_some_iff] at h
      obtain ⟨r, hr, he⟩ := h
      cases he
      exact ⟨rfl, fun st2 => by simp only [hev, hu, hr, Option.map_some]⟩
    · cases h
  | conv k y =>
    simp only [opSem, semF] at h ⊢
    split at h
    · rename_i u n hu
      cases h
      exact ⟨rfl, fun st2 => by simp only [hev, hu]⟩
    · cases h
  | fa off y =>
    simp only [opSem, semF] at h ⊢
    split at h <;> first
      | (rename_i hu; cases h; exact ⟨rfl, fun st2 => by simp only [hev, hu]⟩)
      | cases h
  | len y =>
    simp only [opSem, semF] at h ⊢
    split at h <;> first
      | (rename_i hu; cases h; exact ⟨rfl, fun st2 => by simp only [hev, hu]⟩)
      | cases h
  | lens y =>
    simp only [opSem, semF] at h ⊢
    split at h <;> first
      | (rename_i hu; cases h; exact ⟨rfl, fun st2 => by simp only [hev, hu]⟩)
      | cases h
  | field g sz off y =>
    simp only [opSem, semF] at h ⊢
    split at h
    · rename_i cs hu
      obtain ⟨h1, h2⟩ := conv _ h
      exact ⟨h1, fun st2 => by simp only [hev, hu]; exact h2 st2⟩
    · cases h
  | extract y i =>
    simp only [opSem, semF] at h ⊢
    split at h
    · rename_i cs hu
      split at h
      · rename_i c hc'
        cases h
        exact ⟨rfl, fun st2 => by simp only [hev, hu, hc']⟩
      · cases h
    · cases h
  | call v f xs => cases v <;> simp [AOp.cls] at hc
  | _ => simp [AOp.cls] at hc

end
end Go.Am
