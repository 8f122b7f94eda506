/- The typed machine: what is done with the result may be put off. -/
import Derived.Test.YthbkdnojneffdaaTm9
namespace Go.Am

section
variable {R R' : Type} (h : R → R')

theorem hom_cond (b : Bool) (x y : R) : h (cond b x y) = cond b (h x) (h y) := by cases b <;> rfl
theorem hom_opt {α : Type} (o : Option α) (f : R) (k : α → R) : h (opt? o f k) = opt? o (h f) fun x => h (k x) := by cases o <;> rfl

theorem hom_ibin (op : BinOp) (k k' : IntKind) (a b : Int) (f : R) (g : TV → R) : h (ibin op k k' a b f g) = ibin op k k' a b (h f) fun x => h (g x) := by
  cases op <;> simp only [ibin, hom_cond h]
theorem hom_sbin (op : BinOp) (a b : ByteArray) (f : R) (g : TV → R) : h (sbin op a b f g) = sbin op a b (h f) fun x => h (g x) := by
  cases op <;> simp only [sbin, hom_cond h]
theorem hom_res (b : Bool) (xs : List TV) (st : TStore) (f : R) (k : TV → TStore → R) (rt : RT) (x : rt.den) : h (resT b xs st f k rt x) = resT b xs st (h f) (fun v s => h (k v s)) rt x := by
  cases rt <;> simp only [resT, hom_cond h]
theorem hom_call (E : Env) (b : Bool) (g : FuncId) (xs : List TV) (st : TStore) (f : R) (k : TV → TStore → R) : h (callT E b g xs st f k) = callT E b g xs st (h f) fun v s => h (k v s) := by
  unfold callT
  split
  · rfl
  · simp only [hom_opt h, hom_cond h, hom_res h]
theorem hom_optN (ev : Opd → TV) (x : Option Opd) (f : R) (k : Option Int → R) : h (optN ev x f k) = optN ev x (h f) fun v => h (k v) := by
  unfold optN
  split
  · rfl
  · split <;> rfl
theorem hom_slice (sz : Nat) (x : TV) (st : TStore) (lo hi : Option Int) (f : R) (k : TV → R) : h (sliceT sz x st lo hi f k) = sliceT sz x st lo hi (h f) fun v => h (k v) := by
  unfold sliceT
  split
  · rw [hom_cond h]; congr 1; split <;> simp only [hom_cond h]
  · split
    · rw [hom_cond h]; congr 1; split <;> simp only [hom_cond h]
    · rfl
  · rfl
theorem hom_tsem (E : Env) (op : AOp) (ev : Opd → TV) (st : TStore) (f : R) (k : TV → TStore → R) : h (tsem E op ev st f k) = tsem E op ev st (h f) fun v s => h (k v s) := by
  cases op with
  | call v g xs => simp only [tsem, hom_call h]
  | slice sz x lo hi => simp only [tsem, hom_optN h, hom_slice h]
  | append t sz bytes x y =>
    simp only [tsem]
    split
    · rfl
    · rw [hom_cond h, hom_opt h]
      congr 2
      funext l
      cases ev x with
      | nils => cases l <;> simp only [hom_cond h]
      | ow id =>
        simp only
        split
        · rw [hom_opt h]; congr 1; funext old; rw [hom_cond h]; congr 1; cases l <;> simp only [hom_cond h]
        · rfl
      | own id o n =>
        cases o with
        | zero =>
          simp only
          split
          · rw [hom_opt h]; congr 1; funext old; rw [hom_cond h]; congr 1; cases l <;> simp only [hom_cond h]
          · rfl
        | succ o => rfl
      | _ => rfl
  | bslice t sz len z parts =>
    simp only [tsem]
    split
    · simp only [hom_cond h, hom_opt h]
    · rfl
  | load agg sz x =>
    simp only [tsem]
    cases ev x with
    | ptr id off => simp only; split <;> simp only [hom_opt h]
    | rptr id i off => simp only; split <;> simp only [hom_opt h]
    | _ => simp only [hom_opt h]
  | store sz x y =>
    simp only [tsem]
    cases ev x with
    | ptr id off => simp only; split <;> simp only [hom_opt h, hom_cond h]
    | _ => rfl
  | bin op t x y =>
    simp only [tsem]
    cases ev x with
    | int k1 a => cases ev y <;> simp only [hom_ibin h]
    | s a => cases ev y <;> simp only [hom_sbin h]
    | _ => rfl
  | eqb neg x y =>
    simp only [tsem]
    cases ev x with
    | b a => cases ev y <;> rfl
    | _ => rfl
  | eqs neg t x y =>
    simp only [tsem]
    cases ev x with
    | agg cs =>
      cases ev y with
      | agg ds => simp only; split <;> simp only [hom_opt h]
      | _ => rfl
    | _ => rfl
  | un op x => simp only [tsem]; cases op <;> cases ev x <;> rfl
  | ia sz x i =>
    simp only [tsem]
    cases ev i with
    | int kd n =>
      cases ev x with
      | vs c l => simp only [hom_cond h, hom_opt h]
      | ow id => simp only; split <;> simp only [hom_cond h, hom_opt h]
      | _ => rfl
    | _ => rfl
  | len x =>
    simp only [tsem]
    cases ev x with
    | ow i => simp only; split <;> rfl
    | own i o n => simp only; split <;> rfl
    | _ => rfl
  | pick c a b => simp only [tsem]; cases ev c <;> simp only [hom_cond h]
  | box t x => simp only [tsem, hom_opt h]
  | build z parts => simp only [tsem, hom_opt h]
  | field agg sz off x => simp only [tsem]; cases ev x <;> simp only [hom_opt h]
  | extract x i => simp only [tsem]; cases ev x <;> simp only [hom_opt h]
  | fa off x => simp only [tsem]; cases ev x <;> simp only [hom_opt h]
  | conv kd x => simp only [tsem]; cases ev x <;> rfl
  | lens x => simp only [tsem]; cases ev x <;> rfl
  | mov x => rfl
  | new t z => rfl

theorem hom_oper (E : Env) (o : AOper) (s : TS) (f : R) (k : TS → R) : h (operT E o s f k) = operT E o s (h f) fun s => h (k s) := by
  unfold operT
  split
  · rw [hom_tsem h]
  · split
    · simp only [hom_cond h, hom_tsem h]
    · rfl
    · rfl
theorem hom_ops (E : Env) : ∀ (ops : List AOper) (s : TS) (f : R) (k : TS → R), h (opsT E ops s f k) = opsT E ops s (h f) fun s => h (k s)
  | [], _, _, _ => rfl
  | o :: r, s, f, k => by
    simp only [opsT]
    rw [hom_oper h]
    congr 1
    funext s'
    exact hom_ops E r s' f k
theorem hom_unroll (b : (TS → R) → TS → R) (b' : (TS → R') → TS → R') (hb : ∀ k s, h (b k s) = b' (fun s => h (k s)) s) (f : R) : ∀ (n : Nat) (s : TS), h (unrollN n b f s) = unrollN n b' (h f) s
  | 0, _ => rfl
  | n + 1, s => by
    simp only [unrollN]
    rw [hb]
    congr 1
    funext s'
    exact hom_unroll b b' hb f n s'

theorem hom_exec (it : It) (E : Env) (rt : RT) (rs : List RV) : ∀ (c : TCode) (R R' : Type) (h : R → R') (kn : TS → R) (ke : Nat → TS → R) (kr : rt.den → R) (f : R) (s : TS), h (exec it E rt rs c R kn ke kr f s) = exec it E rt rs c R' (fun s => h (kn s)) (fun j s => h (ke j s)) (fun v => h (kr v)) (h f) s := by
  intro c
  induction c with
  | skip => intros; rfl
  | reg d ops => intro R R' h kn ke kr f s; simp only [exec, hom_ops h]
  | seq a b iha ihb =>
    intro R R' h kn ke kr f s
    simp only [exec]
    rw [iha R R' h]
    congr 1
    funext s'
    exact ihb R R' h kn ke kr f s'
  | cond c a b iha ihb =>
    intro R R' h kn ke kr f s
    simp only [exec]
    split
    · rw [hom_cond h, iha R R' h, ihb R R' h]
    · rfl
  | block id a iha =>
    intro R R' h kn ke kr f s
    simp only [exec]
    rw [iha R R' h]
    congr 1
    funext j s'
    exact hom_cond h _ _ _
  | loop d e a iha =>
    intro R R' h kn ke kr f s
    simp only [exec, hom_opt h]
    congr 1
    funext t
    congr 1
    funext o
    cases o <;> rfl
  | unroll n a iha =>
    intro R R' h kn ke kr f s
    simp only [exec]
    exact hom_unroll h _ _ (fun k s => iha R R' h k ke kr f s) f n s
  | join d a iha =>
    intro R R' h kn ke kr f s
    simp only [exec]
    split <;> rfl
  | exit id => intros; rfl
  | ret => intro R R' h kn ke kr f s; simp only [exec, hom_opt h]

end
end Go.Am
