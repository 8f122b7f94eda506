/- The typed machine: equality of structs without pointers. -/
import Derived.Test.YthbkdnojneffdaaTm13
import Derived.Laws.StructEq
namespace Go.Am

theorem pureRun_bind {α β : Type} (P : Program) : ∀ (x : Sem α) (f : α → Sem β), pureRun P (x >>= f) = (pureRun P x).bind fun a => pureRun P (f a)
  | .pure a, f => rfl
  | .program k, f => by
    show pureRun P ((k P).bind f) = (pureRun P (k P)).bind _
    exact pureRun_bind P (k P) f
  | .load .., _ | .store .., _ | .new .., _ | .shape .., _ | .freeze .., _ | .frozen .., _ | .getObj .., _ | .setObj .., _ | .choose .., _ | .sys .., _ | .mark .., _ | .halt .., _ => rfl

theorem pureRun_pure {α : Type} (P : Program) (a : α) : pureRun P (Pure.pure a : Sem α) = some a := rfl
theorem pureRun_program (P : Program) : pureRun P program = some P := rfl
theorem pureRun_ite {α : Type} (P : Program) (c : Prop) [Decidable c] (x y : Sem α) : pureRun P (if c then x else y) = if c then pureRun P x else pureRun P y := by split <;> rfl
theorem pureRun_underlying {P : Program} {t : TypeId} {d : TypeDesc} (h : P.underlying t = some d) : pureRun P (underlying t) = some d := by
  unfold underlying
  rw [pureRun_bind, pureRun_program, Option.bind_some, h]
  rfl

theorem pureRun_struct {P : Program} (d : Nat) (t : TypeId) (fs : Array Field) (xs ys : Array Value) (ht : P.underlying t = some (.struct fs)) (hp : P.stoodInHeld t = false) :
    pureRun P (Op.equalIn (d + 1) t (.agg xs) (.agg ys)) = pureRun P (Op.eqFields d xs ys fs.toList) := by
  simp only [Op.equalIn, pureRun_bind, pureRun_underlying ht, Option.bind_some, pureRun_program, hp, Bool.false_eq_true, if_false]
  rw [← Array.forIn_toList]
  generalize fs.toList = fs
  clear ht
  induction fs with
  | nil => simp [Op.eqFields, pureRun_pure]
  | cons f fs ih =>
    simp only [List.forIn_cons, Op.eqFields, pureRun_bind, pureRun_ite]
    split
    · cases pureRun P (part f.type xs f.offset) with
      | none => simp
      | some a =>
        cases pureRun P (part f.type ys f.offset) with
        | none => simp
        | some b =>
          simp only [Option.bind_some]
          generalize pureRun P (Op.equalIn d f.type a b) = q
          cases q with
          | none => simp
          | some r =>
            cases r
            · simp [pureRun_pure]
            · simp only [Option.bind_some, Bool.not_true, Bool.false_eq_true, if_false, pureRun_pure]
              exact ih
    · simp only [pureRun_pure, Option.bind_some]
      exact ih

theorem pureRun_eq_int {P : Program} (d : Nat) {t : TypeId} {k k' : IntKind} (ht : P.underlying t = some (.int k')) (a b : Int) : pureRun P (Op.equalIn (d + 1) t (.int k a) (.int k b)) = some (a == b) := by
  simp only [Op.equalIn, pureRun_bind, pureRun_underlying ht, Option.bind_some, if_true, pureRun_pure]
theorem pureRun_eq_bool {P : Program} (d : Nat) {t : TypeId} (ht : P.underlying t = some .bool) (a b : Bool) : pureRun P (Op.equalIn (d + 1) t (.bool a) (.bool b)) = some (a == b) := by
  simp only [Op.equalIn, pureRun_bind, pureRun_underlying ht, Option.bind_some, pureRun_pure]
theorem pureRun_eq_string {P : Program} (d : Nat) {t : TypeId} (ht : P.underlying t = some .string) (a b : ByteArray) : pureRun P (Op.equalIn (d + 1) t (.string a) (.string b)) = some (a == b) := by
  simp only [Op.equalIn, pureRun_bind, pureRun_underlying ht, Option.bind_some, pureRun_pure]

theorem eqFields_cons {P : Program} {d : Nat} {xs ys : Array Value} {f : Field} {fs : List Field} {a b : Value} {r q : Bool} (hn : (f.name == "_") = false) (ha : pureRun P (part f.type xs f.offset) = some a) (hb : pureRun P (part f.type ys f.offset) = some b) (hr : pureRun P (Op.equalIn d f.type a b) = some r)
    (hq : pureRun P (Op.eqFields d xs ys fs) = some q) : pureRun P (Op.eqFields d xs ys (f :: fs)) = some (r && q) := by
  have hn' : f.name ≠ "_" := by simpa using hn
  simp only [Op.eqFields, pureRun_ite, if_pos hn', pureRun_bind, ha, hb, hr, Option.bind_some]
  cases r
  · simp [pureRun_pure]
  · simpa using hq

theorem part_cell {P : Program} {t : TypeId} {d : TypeDesc} (ht : P.underlying t = some d) (hd : isAggD d = false) {cs : Array Value} {off : Nat} {v : Value} (hv : cs[off]? = some v) : pureRun P (part t cs off) = some v := by
  unfold part isAgg
  simp only [pureRun_bind, pureRun_underlying ht, Option.bind_some]
  cases d <;> simp_all [isAggD, pureRun_pure]
theorem part_agg {P : Program} {t : TypeId} {d : TypeDesc} {i : TypeInfo} (ht : P.underlying t = some d) (hd : isAggD d = true) (hi : P.info? t = some i) {cs : Array Value} {off : Nat} : pureRun P (part t cs off) = some (.agg (cs.extract off (off + i.size))) := by
  have h1 : pureRun P (isAgg t) = some true := by
    unfold isAgg
    rw [pureRun_bind, pureRun_underlying ht, Option.bind_some]
    cases d <;> simp_all [isAggD, pureRun_pure]
  have h2 : pureRun P (sizeOf t) = some i.size := by
    unfold sizeOf typeInfo
    rw [pureRun_bind, pureRun_bind, pureRun_program, Option.bind_some, hi]
    rfl
  unfold part
  rw [pureRun_bind, h1, Option.bind_some, if_pos rfl, pureRun_bind, h2]
  rfl

/-- The kinds of the cells of fields that lie one behind another. -/
def kindsF (P : Program) (kd : TypeId → Option (List Kd)) : Nat → List Field → Option (List Kd)
  | _, [] => some []
  | off, f :: r => if (f.name == "_") = false ∧ f.offset = off then match kd f.type, P.info? f.type with
      | some ks, some i => if i.size = ks.length then (match kindsF P kd (off + ks.length) r with
        | some q => some (ks ++ q)
        | none => none) else none
      | _, _ => none else none

/-- The kinds of a type's cells, if it has no pointers; 'n': how deep. -/
def kindsT (P : Program) : Nat → TypeId → Option (List Kd)
  | 0, _ => none
  | n + 1, t => match P.underlying t with
    | some (.int k) => some [.int k]
    | some .bool => some [.b]
    | some .string => some [.s]
    | some (.struct fs) => if P.stoodInHeld t then none else kindsF P (kindsT P n) 0 fs.toList
    | _ => none

theorem eqV_split : ∀ (ks : List Kd) {ks' : List Kd} {us vs : List Value} {q : Bool}, eqV (ks ++ ks') us vs = some q → ∃ q1 q2, eqV ks (us.take ks.length) (vs.take ks.length) = some q1 ∧ eqV ks' (us.drop ks.length) (vs.drop ks.length) = some q2 ∧ q = (q1 && q2) ∧ ks.length ≤ us.length ∧ ks.length ≤ vs.length := by
  intro ks
  induction ks with
  | nil => intro ks' us vs q h; exact ⟨true, q, by simp [eqV], by simpa using h, by simp, by simp, by simp⟩
  | cons k ks ih =>
    intro ks' us vs q h
    rw [List.cons_append] at h
    unfold eqV at h
    split at h
    · simp_all
    · rename_i k1 ks1 k2 a r k3 b r' e
      obtain ⟨rfl, rfl⟩ := List.cons.inj e
      split at h
      · rename_i hk
        split at h
        · rename_i q0 h1
          cases h
          obtain ⟨q1, q2, g1, g2, g3, g4, g5⟩ := ih h1
          exact ⟨a == b && q1, q2, by simp [eqV, hk, g1], by simpa using g2, by rw [g3, Bool.and_assoc], by simp; omega, by simp; omega⟩
        · cases h
      · cases h
    · rename_i ks1 a r b r' e
      obtain ⟨rfl, rfl⟩ := List.cons.inj e
      split at h
      · rename_i q0 h1
        cases h
        obtain ⟨q1, q2, g1, g2, g3, g4, g5⟩ := ih h1
        exact ⟨a == b && q1, q2, by simp [eqV, g1], by simpa using g2, by rw [g3, Bool.and_assoc], by simp; omega, by simp; omega⟩
      · cases h
    · rename_i ks1 a r b r' e
      obtain ⟨rfl, rfl⟩ := List.cons.inj e
      split at h
      · rename_i q0 h1
        cases h
        obtain ⟨q1, q2, g1, g2, g3, g4, g5⟩ := ih h1
        exact ⟨a == b && q1, q2, by simp [eqV, g1], by simpa using g2, by rw [g3, Bool.and_assoc], by simp; omega, by simp; omega⟩
      · cases h
    · cases h

/-- A value of a type: its one cell, or its cells. -/
def valT (P : Program) (t : TypeId) (us : List Value) : Option Value :=
  match P.underlying t with
  | some d => if isAggD d then some (.agg us.toArray) else us[0]?
  | none => none

theorem eqV_one {k : Kd} {us vs : List Value} {q : Bool} (h : eqV [k] us vs = some q) : ∃ u v, us = [u] ∧ vs = [v] ∧ ((∃ kd a b, k = .int kd ∧ u = .int kd a ∧ v = .int kd b ∧ q = (a == b)) ∨ (∃ a b, k = .b ∧ u = .bool a ∧ v = .bool b ∧ q = (a == b)) ∨ ∃ a b, k = .s ∧ u = .string a ∧ v = .string b ∧ q = (a == b)) := by
  have nil : ∀ {us vs : List Value} {q : Bool}, eqV [] us vs = some q → us = [] ∧ vs = [] ∧ q = true := fun {us vs q} h => by
    unfold eqV at h; split at h <;> simp_all
  unfold eqV at h
  split at h
  · simp_all
  · rename_i k1 ks1 k2 a r k3 b r' e
    obtain ⟨rfl, rfl⟩ := List.cons.inj e
    split at h
    · rename_i hk
      split at h
      · rename_i q0 h1
        cases h
        obtain ⟨rfl, rfl, rfl⟩ := nil h1
        exact ⟨_, _, rfl, rfl, .inl ⟨k1, a, b, rfl, by rw [hk.1], by rw [hk.2], by simp⟩⟩
      · cases h
    · cases h
  · rename_i ks1 a r b r' e
    obtain ⟨rfl, rfl⟩ := List.cons.inj e
    split at h
    · rename_i q0 h1
      cases h
      obtain ⟨rfl, rfl, rfl⟩ := nil h1
      exact ⟨_, _, rfl, rfl, .inr (.inl ⟨a, b, rfl, rfl, rfl, by simp⟩)⟩
    · cases h
  · rename_i ks1 a r b r' e
    obtain ⟨rfl, rfl⟩ := List.cons.inj e
    split at h
    · rename_i q0 h1
      cases h
      obtain ⟨rfl, rfl, rfl⟩ := nil h1
      exact ⟨_, _, rfl, rfl, .inr (.inr ⟨a, b, rfl, rfl, rfl, by simp⟩)⟩
    · cases h
  · cases h

theorem eq_flat {P : Program} : ∀ (n : Nat) (t : TypeId) (ks : List Kd), kindsT P n t = some ks → ∀ (us vs : List Value) (q : Bool), eqV ks us vs = some q → ∀ d, n ≤ d → ∃ a b, valT P t us = some a ∧ valT P t vs = some b ∧ pureRun P (Op.equalIn d t a b) = some q := by
  intro n
  induction n with
  | zero => intro t ks h; simp [kindsT] at h
  | succ n ih =>
    intro t ks h us vs q hq d hd
    obtain ⟨d, rfl⟩ : ∃ d', d = d' + 1 := ⟨d - 1, by omega⟩
    unfold kindsT at h
    split at h
    · rename_i k hu
      cases h
      obtain ⟨u, v, rfl, rfl, h⟩ := eqV_one hq
      rcases h with ⟨kd, a, b, e, rfl, rfl, rfl⟩ | ⟨_, _, e, _⟩ | ⟨_, _, e, _⟩
      · cases e
        exact ⟨.int k a, .int k b, by simp [valT, hu, isAggD], by simp [valT, hu, isAggD], pureRun_eq_int d hu a b⟩
      · cases e
      · cases e
    · rename_i hu
      cases h
      obtain ⟨u, v, rfl, rfl, h⟩ := eqV_one hq
      rcases h with ⟨_, _, _, e, _⟩ | ⟨a, b, _, rfl, rfl, rfl⟩ | ⟨_, _, e, _⟩
      · cases e
      · exact ⟨_, _, by simp [valT, hu, isAggD], by simp [valT, hu, isAggD], pureRun_eq_bool d hu a b⟩
      · cases e
    · rename_i hu
      cases h
      obtain ⟨u, v, rfl, rfl, h⟩ := eqV_one hq
      rcases h with ⟨_, _, _, e, _⟩ | ⟨_, _, e, _⟩ | ⟨a, b, _, rfl, rfl, rfl⟩
      · cases e
      · cases e
      · exact ⟨_, _, by simp [valT, hu, isAggD], by simp [valT, hu, isAggD], pureRun_eq_string d hu a b⟩
    · rename_i fs hu
      split at h
      · cases h
      · rename_i hp
        refine ⟨.agg us.toArray, .agg vs.toArray, by simp [valT, hu, isAggD], by simp [valT, hu, isAggD], ?_⟩
        rw [pureRun_struct d t fs _ _ hu (by simpa using hp)]
        have key : ∀ (fs : List Field) (off : Nat) (ks : List Kd) (q : Bool), kindsF P (kindsT P n) off fs = some ks → eqV ks (us.drop off) (vs.drop off) = some q → pureRun P (Op.eqFields d us.toArray vs.toArray fs) = some q := by
          intro fs
          induction fs with
          | nil =>
            intro off ks q h hq
            simp only [kindsF, Option.some.injEq] at h
            subst h
            have : q = true := by
              unfold eqV at hq
              split at hq <;> simp_all
            subst this
            rfl
          | cons f fs ihf =>
            intro off ks q h hq
            simp only [kindsF] at h
            split at h
            · rename_i hn
              split at h
              · rename_i ks1 i hk1 hi
                split at h
                · rename_i hsz
                  split at h
                  · rename_i q' hq'
                    cases h
                    obtain ⟨q1, q2, g1, g2, rfl, g4, g5⟩ := eqV_split ks1 hq
                    rw [List.drop_drop, List.drop_drop] at g2
                    obtain ⟨a, b, a1, b1, e1⟩ := ih f.type ks1 hk1 _ _ q1 g1 d (by omega)
                    have pt : ∀ (ws : List Value) (a : Value), ks1.length ≤ (ws.drop off).length → valT P f.type ((ws.drop off).take ks1.length) = some a → pureRun P (part f.type ws.toArray f.offset) = some a := fun ws a hl ha => by
                      unfold valT at ha
                      split at ha
                      · rename_i dd hdd
                        cases hag : isAggD dd with
                        | true =>
                          rw [hag] at ha
                          simp only [if_true, Option.some.injEq] at ha
                          rw [part_agg hdd hag hi, ← ha, hn.2, hsz]
                          congr 1
                          simp [List.extract_toArray, List.extract_eq_take_drop]
                        | false =>
                          rw [hag] at ha
                          simp only [Bool.false_eq_true, if_false] at ha
                          refine part_cell hdd hag ?_
                          rw [hn.2]
                          rw [List.getElem?_take] at ha
                          split at ha
                          · simpa using ha
                          · cases ha
                      · cases ha
                    refine eqFields_cons hn.1 (pt us a g4 a1) (pt vs b g5 b1) e1 (ihf _ _ _ hq' g2)
                  · cases h
                · cases h
              · cases h
            · cases h
        exact key _ 0 ks q h (by simpa using hq)
    · cases h

/-- Structs without pointers are equal just where their cells are. -/
theorem eqOk_of {P : Program} {t : TypeId} {ks : List Kd} (n : Nat) (hn : n ≤ 1000) (h : kindsT P n t = some ks) (hs : (match P.underlying t with | some (.struct _) => true | _ => false) = true) : EqOk P t ks := by
  intro us vs q hq
  obtain ⟨a, b, h1, h2, h3⟩ := eq_flat n t ks h us vs q hq Op.maxDepth (by have : Op.maxDepth = 10000 := rfl; omega)
  unfold valT at h1 h2
  split at hs
  · rename_i fs hu
    rw [hu] at h1 h2
    simp only [isAggD, if_true, Option.some.injEq] at h1 h2
    subst h1 h2
    exact h3
  · cases hs

end Go.Am
