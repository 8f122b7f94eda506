/- The abstract machine: a region that draws its order, whole. -/
import Derived.Test.YthbkdnojneffdaaAmDraw2
namespace Go.Am
open Go.RowKit

theorem ancTab_old : ∀ (l : List AOper) (acc : List (List Nat)) (k : Nat), k < acc.length → (ancTab l acc).getD k [] = acc.getD k []
  | [], _, _, _ => rfl
  | o :: r, acc, k, h => by
    simp only [ancTab]
    rw [ancTab_old r _ k (by simp; omega)]
    simp [List.getD, List.getElem?_append_left h]

theorem ancTab_mem : ∀ (l : List AOper) (acc : List (List Nat)) (i : Nat) (o : AOper), l[i]? = some o → ∀ x ∈ (ancTab l acc).getD (acc.length + i) [], x ∈ o.after ∨ ∃ e ∈ o.after, e < acc.length + i ∧ x ∈ (ancTab l acc).getD e []
  | [], _, _, _, h => by simp at h
  | o :: r, acc, i, o', h => by
    intro x hx
    simp only [ancTab] at hx ⊢
    cases i with
    | zero =>
      simp at h
      subst h
      rw [Nat.add_zero, ancTab_old r _ acc.length (by simp)] at hx
      simp only [List.getD, List.getElem?_append_right (Nat.le_refl _), Nat.sub_self, List.getElem?_cons_zero, Option.getD_some, List.mem_eraseDups, List.mem_append, List.mem_flatMap] at hx
      rcases hx with hx | ⟨e, he, hx⟩
      · exact .inl hx
      · rcases Nat.lt_or_ge e acc.length with hlt | hge
        · refine .inr ⟨e, he, by omega, ?_⟩
          rw [ancTab_old r _ e (by simp; omega)]
          simpa [List.getD, List.getElem?_append_left hlt] using hx
        · simp [List.getElem?_eq_none hge] at hx
    | succ i =>
      have := ancTab_mem r (acc ++ [(o.after ++ o.after.flatMap fun e => acc.getD e []).eraseDups]) i o' (by simpa using h) x (by
        rw [show (acc ++ [(o.after ++ o.after.flatMap fun e => acc.getD e []).eraseDups]).length + i = acc.length + (i + 1) from by simp; omega]
        exact hx)
      rcases this with h1 | ⟨e, he, hlt, hx'⟩
      · exact .inl h1
      · exact .inr ⟨e, he, by simp at hlt; omega, hx'⟩

/-- What is listed has all that comes before it listed. -/
def Closed (as : List AOper) (listed : Array Bool) : Prop := ∀ (k : Nat) (ak : AOper), as[k]? = some ak → listed.getD k false = true → ∀ e ∈ ak.after, listed.getD e false = true

theorem anc_listed {as : List AOper} {listed : Array Bool} (hcl : Closed as listed) : ∀ (n j : Nat), j < n → ∀ (aj : AOper), as[j]? = some aj → (∀ e ∈ aj.after, listed.getD e false = true) → ∀ x ∈ (ancTab as []).getD j [], listed.getD x false = true
  | 0, j, h, _, _, _, _, _ => by omega
  | n + 1, j, h, aj, ha, hall, x, hx => by
    have := ancTab_mem as [] j aj ha x (by simpa using hx)
    rcases this with h1 | ⟨e, he, hlt, hx'⟩
    · exact hall x h1
    · simp at hlt
      have hel : e < as.length := by have := (List.getElem?_eq_some_iff.1 ha).1; omega
      exact anc_listed hcl n e (by omega) as[e] (List.getElem?_eq_getElem hel) (hcl e as[e] (List.getElem?_eq_getElem hel) (hall e he)) x hx'

theorem pairsOk_spec {as : List AOper} {tab : List (List Nat)} (h : pairsOk as tab = true) {j : Nat} {aj : AOper} (hj : as[j]? = some aj) : (∀ e ∈ aj.after, e < j) ∧ ∀ (x : Nat) (ax : AOper), x < j → as[x]? = some ax → x ∈ tab.getD j [] ∨ indep ax aj = true := by
  unfold pairsOk at h
  rw [List.all_eq_true] at h
  have h1 := h (aj, j) (by rw [List.mem_zipIdx_iff_getElem?]; exact hj)
  simp only [Bool.and_eq_true, List.all_eq_true, decide_eq_true_eq, Bool.or_eq_true, List.contains_iff_mem] at h1
  refine ⟨fun e he => h1.1 e he, fun x ax hx hax => ?_⟩
  exact h1.2 (ax, x) (by rw [List.mem_zipIdx_iff_getElem?, List.getElem?_take_of_lt hx]; exact hax)

def remL (n : Nat) (listed : Array Bool) : List Nat := (List.range n).filter fun i => !listed.getD i true

theorem remL_set {n : Nat} {listed : Array Bool} (hs : listed.size = n) {i : Nat} (hi : i < n) {xs ys : List Nat} (h : remL n listed = xs ++ i :: ys) :
    remL n (listed.setIfInBounds i true) = xs ++ ys ∧ (∀ x ∈ xs, x < i) := by
  have hp : (remL n listed).Pairwise (· < ·) := (List.pairwise_lt_range).filter _
  rw [h] at hp
  have hp' := List.pairwise_append.1 hp
  have hx : ∀ x ∈ xs, x < i := fun x hx => hp'.2.2 x hx i (by simp)
  have hy : ∀ y ∈ ys, i < y := fun y hy => (List.pairwise_cons.1 hp'.2.1).1 y hy
  refine ⟨?_, hx⟩
  have e1 : remL n (listed.setIfInBounds i true) = (remL n listed).filter (fun k => k != i) := by
    unfold remL
    rw [List.filter_filter]
    apply List.filter_congr
    intro k _
    simp only [Array.getD_eq_getD_getElem?, Array.getElem?_setIfInBounds]
    by_cases hk : i = k
    · subst hk
      simp [hs, hi]
    · have : (k != i) = true := by simp; exact fun e => hk e.symm
      simp [hk, this]
  rw [e1, h, List.filter_append, List.filter_cons]
  simp only [bne_self_eq_false, Bool.false_eq_true, if_false]
  rw [List.filter_eq_self.2 (fun x hx' => by have := hx x hx'; simp; omega), List.filter_eq_self.2 (fun y hy' => by have := hy y hy'; simp; omega)]

section
variable {P : Program} {I0 : Nat → Prop} {w0 : World} {ops : Array Oper}

theorem wfV_of_rep {m : LMap} {n : Nat} {I : Nat → Prop} {w : World} {x : AV} {u : Value} (h : Rep m n I w x u) : WfV n x := by
  cases h with
  | agg cs us hl hr =>
    intro c hc
    obtain ⟨i, hi, rfl⟩ := List.mem_iff_getElem.1 hc
    have := hr i cs[i] (us[i]'(by omega)) (List.getElem?_eq_getElem hi) (Array.getElem?_eq_getElem (by omega))
    generalize cs[i] = c at this
    generalize us[i]'(by omega) = u at this
    cases this <;> simp_all [WfC]
  | _ => simp_all [WfV]

theorem wf_of_rel {m : LMap} {I : Nat → Prop} {s : AS} {a : Act} {w : World} (h : Rel I0 w0 m I s a w) {o : Oper} {ao : AOper} (hc : compOp P o.op = some ao.op) (hcl : ao.op.cls = 1) : WfOp ao s := by
  have key : ∀ x y, compX x = some y → WfV s.st.length (s.ev y) := fun x y hxy => wfV_of_rep (rep_compX h hxy)
  have keyo : ∀ x y, compOpt x = some y → ∀ z ∈ y.toList, WfV s.st.length (s.ev z) := fun x y hxy z hz => by
    cases x with
    | none => simp [compOpt] at hxy; subst hxy; simp at hz
    | some x =>
      simp only [compOpt, Option.map_eq_some_iff] at hxy
      obtain ⟨y', h1, rfl⟩ := hxy
      simp at hz
      subst hz
      exact key x z h1
  intro y hy
  generalize ao.op = aop at hc hcl hy
  cases hop : o.op with
  | load t x =>
    simp only [hop, compOp] at hc
    split at hc
    · rename_i d i y' hd hi hy'
      cases hc
      simp [AOp.opds] at hy
      subst hy
      exact key x _ hy'
    · cases hc
  | indexAddr t x j =>
    simp only [hop, compOp] at hc
    split at hc
    · rename_i e y' j' hu hy' hj'
      split at hc
      · split at hc
        · cases hc
        · cases hc
          simp [AOp.opds] at hy
          rcases hy with rfl | rfl
          · exact key x _ hy'
          · exact key j _ hj'
      · cases hc
    · cases hc
  | slice t x lo hi mx =>
    cases mx with
    | some q => simp [hop, compOp] at hc
    | none =>
      simp only [hop, compOp] at hc
      split at hc
      · rename_i e y' l h' hu hy' hl hh
        split at hc
        · split at hc
          · cases hc
          · cases hc
            simp only [AOp.opds, List.mem_cons, List.mem_append] at hy
            rcases hy with rfl | hy | hy
            · exact key x _ hy'
            · exact keyo lo _ hl y hy
            · exact keyo hi _ hh y hy
        · cases hc
      · cases hc
  | call c =>
    obtain ⟨callee, args, ts⟩ := c
    cases callee with
    | invoke r n => simp [hop, compOp] at hc
    | value g =>
      cases g <;> simp only [hop, compOp, reduceCtorEq] at hc
      split at hc
      · rename_i fn xs hfn hxs
        split at hc
        · cases hc
          simp only [AOp.opds] at hy
          obtain ⟨g1, g2⟩ := compXs_rep h hxs
          obtain ⟨i, hi, rfl⟩ := List.mem_iff_getElem.1 hy
          have hi' : i < args.toList.length := by omega
          exact wfV_of_rep (g2 i _ _ (List.getElem?_eq_getElem hi') (List.getElem?_eq_getElem hi))
        · cases hc
      · cases hc
    | builtin b =>
      exfalso
      cases b <;> simp only [hop, compOp, reduceCtorEq] at hc
      · split at hc
        · split at hc
          · split at hc
            · split at hc
              · split at hc
                · split at hc
                  · cases hc; simp [AOp.cls] at hcl
                  · cases hc
                · cases hc
              · cases hc
            · cases hc
          · cases hc
        · cases hc
      · split at hc
        · split at hc
          · cases hc; simp [AOp.cls] at hcl
          · cases hc; simp [AOp.cls] at hcl
          · cases hc
        · cases hc
  | _ =>
    exfalso
    simp only [hop, compOp, Option.map_eq_some_iff, reduceCtorEq] at hc
    repeat' (split at hc)
    all_goals first
      | (cases hc; done)
      | (cases hc; simp [AOp.cls] at hcl; done)
      | (obtain ⟨_, _, rfl⟩ := hc; simp [AOp.cls] at hcl; done)
      | (simp only [Option.map_eq_some_iff] at hc; obtain ⟨_, _, rfl⟩ := hc; simp [AOp.cls] at hcl; done)

theorem any_of_text {as : List AOper} (hc : compOpers P ops ops.toList = some as) (hd : drawOk as = true) {Q : Exit → Act → World → Prop} {sf : AS} (hQ : ∀ a' w', Good I0 w0 sf a' w' → Q .normal a' w') :
    ∀ (fuel : Nat) (listed : Array Bool) (s : AS) (a : Act) (w : World), listed.size = ops.size → Closed as listed → (remL ops.size listed).length = fuel → Good I0 w0 s a w → opsR P ((remL ops.size listed).map fun i => as.getD i default) s sf → wpAny P .any ops Q fuel listed a w := by
  obtain ⟨hlen, hget⟩ := compOpers_get hc
  have hlen' : as.length = ops.size := by simpa using hlen
  have hmem : ∀ listed j, j ∈ Region.ready .any ops listed → j ∈ remL ops.size listed := fun listed j hj => by
    obtain ⟨h1, o, ho, _⟩ := mem_ready.1 hj
    simp only [remL, List.mem_filter, List.mem_range]
    exact ⟨(Array.getElem?_eq_some_iff.1 ho).1, by simpa using h1⟩
  have hafter : ∀ (j : Nat) (o : Oper), ops[j]? = some o → ∃ ao, as[j]? = some ao ∧ compOper P ops o = some ao ∧ ∀ e, e ∈ ao.after ↔ ∃ ed ∈ o.after, Region.binds .any ed = true ∧ ed.on = e := fun j o ho => by
    obtain ⟨ao, h1, h2⟩ := hget j o (by simpa using ho)
    refine ⟨ao, h1, h2, fun e => ?_⟩
    rw [(compOper_parts h2).2.2.1]
    simp only [List.mem_map, List.mem_filter, Array.mem_toList_iff]
    constructor
    · rintro ⟨ed, ⟨h3, h4⟩, h5⟩; exact ⟨ed, h3, h4, h5⟩
    · rintro ⟨ed, h3, h4, h5⟩; exact ⟨ed, ⟨h3, h4⟩, h5⟩
  intro fuel
  induction fuel with
  | zero =>
    intro listed s a w hs hcl hf hg hr
    have hnil : remL ops.size listed = [] := List.eq_nil_of_length_eq_zero hf
    rw [hnil] at hr
    simp only [List.map_nil, opsR] at hr
    subst hr
    refine ⟨?_, hQ a w hg⟩
    cases hrd : Region.ready .any ops listed with
    | nil => rfl
    | cons j r =>
      have := hmem listed j (by rw [hrd]; simp)
      rw [hnil] at this
      cases this
  | succ fuel ih =>
    intro listed s a w hs hcl hf hg hr
    refine ⟨fun hnil => ?_, fun i hi => ?_⟩
    · exfalso
      cases hrem : remL ops.size listed with
      | nil => rw [hrem] at hf; simp at hf
      | cons j r =>
        have hjm : j ∈ remL ops.size listed := by rw [hrem]; simp
        simp only [remL, List.mem_filter, List.mem_range] at hjm
        have hp : (remL ops.size listed).Pairwise (· < ·) := (List.pairwise_lt_range).filter _
        rw [hrem] at hp
        have hmin := (List.pairwise_cons.1 hp).1
        obtain ⟨ao, h1, h2, h3⟩ := hafter j ops[j] (Array.getElem?_eq_getElem hjm.1)
        have hrd : j ∈ Region.ready .any ops listed := mem_ready.2 ⟨by simpa using hjm.2, ops[j], Array.getElem?_eq_getElem hjm.1, fun ed hed hb => by
          have hlt := (pairsOk_spec hd h1).1 ed.on ((h3 ed.on).2 ⟨ed, hed, hb, rfl⟩)
          have hno : ed.on < listed.size := by omega
          cases hq : listed[ed.on] with
          | true => simp [Array.getD_eq_getD_getElem?, hno, hq]
          | false =>
            have hin : ed.on ∈ remL ops.size listed := by
              simp only [remL, List.mem_filter, List.mem_range]
              exact ⟨by omega, by simp [Array.getD_eq_getD_getElem?, hno, hq]⟩
            rw [hrem] at hin
            rcases List.mem_cons.1 hin with h4 | h4
            · omega
            · have := hmin _ h4; omega⟩
        rw [hnil] at hrd
        cases hrd
    · obtain ⟨hun, o, ho, hall⟩ := mem_ready.1 hi
      obtain ⟨ao, h1, h2, h3⟩ := hafter i o ho
      have hin := hmem listed i hi
      have hilt : i < ops.size := (Array.getElem?_eq_some_iff.1 ho).1
      obtain ⟨xs, ys, hrem⟩ := List.append_of_mem hin
      obtain ⟨hrem', hxs⟩ := remL_set hs hilt hrem
      have hao : as.getD i default = ao := by simp [List.getD, h1]
      have haft : ∀ e ∈ ao.after, listed.getD e false = true := fun e he => by
        obtain ⟨ed, h4, h5, h6⟩ := (h3 e).1 he
        rw [← h6]
        exact hall ed h4 h5
      rw [hrem, List.map_append, List.map_cons, hao] at hr
      have hind : ∀ x ∈ xs.map (fun i => as.getD i default), indep x ao = true := fun x hx => by
        obtain ⟨k, hk, rfl⟩ := List.mem_map.1 hx
        have hklt : k < as.length := by have := hxs k hk; omega
        have hks : as.getD k default = as[k] := by simp [List.getD, hklt]
        rw [hks]
        rcases (pairsOk_spec hd h1).2 k as[k] (hxs k hk) (List.getElem?_eq_getElem hklt) with h4 | h4
        · exfalso
          have h5 := anc_listed hcl (i + 1) i (by omega) ao h1 haft k h4
          have h6 : k ∈ remL ops.size listed := by rw [hrem]; simp [hk]
          simp only [remL, List.mem_filter, List.mem_range] at h6
          have hk' : k < listed.size := by omega
          simp [Array.getD_eq_getD_getElem?, hk'] at h5 h6
          rw [h5] at h6
          simp at h6
        · exact h4
      obtain ⟨s1, hr1, hr2⟩ := pull _ _ s sf hind (fun hcls => by
        obtain ⟨m, I, hrel⟩ := hg
        exact wf_of_rel hrel (compOper_parts h2).1 hcls) hr
      rw [← List.map_append] at hr2
      unfold wpOp
      rw [ho]
      refine wp_oper hg h2 hr1 (fun a' w' hg' => ?_)
      refine ih (listed.setIfInBounds i true) s1 a' w' (by simp [hs]) ?_ ?_ hg' (by rw [hrem']; exact hr2)
      · intro k ak hk hlk e he
        have hset : ∀ e, listed.getD e false = true → (listed.setIfInBounds i true).getD e false = true := fun e he => by
          simp only [Array.getD_eq_getD_getElem?, Array.getElem?_setIfInBounds] at he ⊢
          by_cases hie : i = e
          · subst hie
            rw [if_pos rfl, if_pos (by omega)]
            rfl
          · rw [if_neg hie]; exact he
        by_cases hki : i = k
        · subst hki
          rw [h1] at hk
          cases hk
          exact hset e (haft e he)
        · refine hset e (hcl k ak hk ?_ e he)
          simp only [Array.getD_eq_getD_getElem?, Array.getElem?_setIfInBounds, if_neg hki] at hlk ⊢
          exact hlk
      · rw [hrem']
        rw [hrem] at hf
        simp at hf ⊢
        omega

theorem wp_region_drawn {id : Nat} {as : List AOper} {s sf : AS} {a : Act} {w : World} (hc : compOpers P ops ops.toList = some as) (hm : P.follows .mixedOrders = true) (hd : drawOk as = true) {Q : Exit → Act → World → Prop} (hg : Good I0 w0 s a w) (hr : opsR P as s sf) (hQ : ∀ a' w', Good I0 w0 sf a' w' → Q .normal a' w') :
    (Code.region id ops true).wp P Q a w := by
  refine wp_region_any hm ?_
  have hlen : as.length = ops.size := by simpa using (compOpers_get hc).1
  have hrem : remL ops.size (Array.replicate ops.size false) = List.range ops.size := by
    unfold remL
    rw [List.filter_eq_self]
    intro k hk
    have : k < ops.size := List.mem_range.1 hk
    simp [Array.getD_eq_getD_getElem?, this]
  have hg' : Good I0 w0 s a { w with drawn := w.drawn + 1 } := by
    obtain ⟨m, I, h⟩ := hg
    have hb : Below w.heap.size w { w with drawn := w.drawn + 1 } := ⟨rfl, rfl, rfl, Nat.le_refl _, fun _ _ => rfl⟩
    exact ⟨m, I, h.grow hb (fun _ hb => hb) (fun _ hb => .inl hb)⟩
  refine any_of_text hc hd hQ ops.size _ s a _ (by simp) ?_ (by rw [hrem]; simp) hg' ?_
  · intro k ak _ hk
    exfalso
    rcases Nat.lt_or_ge k ops.size with h | h
    · simp [Array.getD_eq_getD_getElem?, h] at hk
    · simp [Array.getD_eq_getD_getElem?, h] at hk
  · rw [hrem]
    have : (List.range ops.size).map (fun i => as.getD i default) = as := by
      apply List.ext_getElem?
      intro k
      rw [List.getElem?_map]
      rcases Nat.lt_or_ge k ops.size with h | h
      · rw [List.getElem?_range h]
        have hk : k < as.length := by omega
        simp [List.getD, hk]
      · rw [List.getElem?_eq_none (by simpa using h), List.getElem?_eq_none (by omega)]
        rfl
    rw [this]
    exact hr

end
end Go.Am
