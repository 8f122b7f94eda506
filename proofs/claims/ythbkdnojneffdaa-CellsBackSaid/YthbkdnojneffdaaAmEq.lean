/- The abstract machine: equality of structs. -/
import Derived.Test.YthbkdnojneffdaaAmList
import Derived.Laws.StructEq
namespace Go.Am

theorem pureRun_bind {α β : Type} (P : Program) : ∀ (x : Sem α) (f : α → Sem β), pureRun P (x >>= f) = (pureRun P x).bind fun a => pureRun P (f a)
  | .pure a, f => rfl
  | .program k, f => by
    show pureRun P ((k P).bind f) = (pureRun P (k P)).bind _
    exact pureRun_bind P (k P) f
  | .load .., _ | .store .., _ | .new .., _ | .shape .., _ | .freeze .., _ | .frozen .., _ | .getObj .., _ | .setObj .., _ | .choose .., _ | .sys .., _ | .mark .., _ | .halt .., _ => rfl

theorem pureRun_pure {α : Type} (P : Program) (a : α) : pureRun P (Pure.pure a : Sem α) = some a := rfl
theorem pureRun_program (P : Program) : pureRun P program = some P := rfl
theorem pureRun_ite {α : Type} (P : Program) (c : Prop) [Decidable c] (x y : Sem α) : pureRun P (if c then x else y) = if c then pureRun P x else pureRun P y := by split <;> rfl
theorem pureRun_underlying {P : Program} {t : TypeId} {d : TypeDesc} (h : P.underlying t = some d) : pureRun P (underlying t) = some d := by
  unfold underlying
  rw [pureRun_bind, pureRun_program, Option.bind_some, h]
  rfl

theorem pureRun_struct {P : Program} (d : Nat) (t : TypeId) (xs ys : Array Value) (ht : P.underlying t = some (.struct (P.fieldsOf t))) (hp : P.stoodInHeld t = false) :
    pureRun P (Op.equalIn (d + 1) t (.agg xs) (.agg ys)) = pureRun P (Op.eqFields d xs ys (P.fieldsOf t).toList) := by
  simp only [Op.equalIn, pureRun_bind, pureRun_underlying ht, Option.bind_some, pureRun_program, hp, Bool.false_eq_true, if_false]
  rw [← Array.forIn_toList]
  generalize (P.fieldsOf t).toList = fs
  clear ht
  induction fs with
  | nil => simp [Op.eqFields, pureRun_pure]
  | cons f fs ih =>
    simp only [List.forIn_cons, Op.eqFields, pureRun_bind, pureRun_ite]
    split
    · cases pureRun P (part f.type xs f.offset) with
      | none => simp
      | some a =>
        cases pureRun P (part f.type ys f.offset) with
        | none => simp
        | some b =>
          simp only [Option.bind_some]
          generalize pureRun P (Op.equalIn d f.type a b) = q
          cases q with
          | none => simp
          | some r =>
            cases r
            · simp [pureRun_pure]
            · simp only [Option.bind_some, Bool.not_true, Bool.false_eq_true, if_false, pureRun_pure]
              exact ih
    · simp only [pureRun_pure, Option.bind_some]
      exact ih

theorem pureRun_eq_int {P : Program} (d : Nat) {t : TypeId} {k k' : IntKind} (ht : P.underlying t = some (.int k')) (a b : Int) : pureRun P (Op.equalIn (d + 1) t (.int k a) (.int k b)) = some (a == b) := by
  simp only [Op.equalIn, pureRun_bind, pureRun_underlying ht, Option.bind_some, if_true, pureRun_pure]
theorem pureRun_eq_bool {P : Program} (d : Nat) {t : TypeId} (ht : P.underlying t = some .bool) (a b : Bool) : pureRun P (Op.equalIn (d + 1) t (.bool a) (.bool b)) = some (a == b) := by
  simp only [Op.equalIn, pureRun_bind, pureRun_underlying ht, Option.bind_some, pureRun_pure]
theorem pureRun_eq_string {P : Program} (d : Nat) {t : TypeId} (ht : P.underlying t = some .string) (a b : ByteArray) : pureRun P (Op.equalIn (d + 1) t (.string a) (.string b)) = some (a == b) := by
  simp only [Op.equalIn, pureRun_bind, pureRun_underlying ht, Option.bind_some, pureRun_pure]

theorem eqFields_nil {P : Program} (d : Nat) (xs ys : Array Value) : pureRun P (Op.eqFields d xs ys []) = some true := rfl
theorem eqFields_cons {P : Program} {d : Nat} {xs ys : Array Value} {f : Field} {fs : List Field} {a b : Value} {r q : Bool} (hn : (f.name == "_") = false) (ha : pureRun P (part f.type xs f.offset) = some a) (hb : pureRun P (part f.type ys f.offset) = some b) (hr : pureRun P (Op.equalIn d f.type a b) = some r)
    (hq : pureRun P (Op.eqFields d xs ys fs) = some q) : pureRun P (Op.eqFields d xs ys (f :: fs)) = some (r && q) := by
  have hn' : f.name ≠ "_" := by simpa using hn
  simp only [Op.eqFields, pureRun_ite, if_pos hn', pureRun_bind, ha, hb, hr, Option.bind_some]
  cases r
  · simp [pureRun_pure]
  · simpa using hq

theorem part_cell {P : Program} {t : TypeId} {d : TypeDesc} (ht : P.underlying t = some d) (hd : isAggD d = false) {cs : Array Value} {off : Nat} {v : Value} (hv : cs[off]? = some v) : pureRun P (part t cs off) = some v := by
  unfold part isAgg
  simp only [pureRun_bind, pureRun_underlying ht, Option.bind_some]
  cases d <;> simp_all [isAggD, pureRun_pure]
theorem part_agg {P : Program} {t : TypeId} {d : TypeDesc} {i : TypeInfo} (ht : P.underlying t = some d) (hd : isAggD d = true) (hi : P.info? t = some i) {cs : Array Value} {off : Nat} : pureRun P (part t cs off) = some (.agg (cs.extract off (off + i.size))) := by
  have h1 : pureRun P (isAgg t) = some true := by
    unfold isAgg
    rw [pureRun_bind, pureRun_underlying ht, Option.bind_some]
    cases d <;> simp_all [isAggD, pureRun_pure]
  have h2 : pureRun P (sizeOf t) = some i.size := by
    unfold sizeOf typeInfo
    rw [pureRun_bind, pureRun_bind, pureRun_program, Option.bind_some, hi]
    rfl
  unfold part
  rw [pureRun_bind, h1, Option.bind_some, if_pos rfl, pureRun_bind, h2]
  rfl

section
variable {P : Program} {K : AS → Prop} {fr fr1 : List AV} {st st1 : Store} {d : Nat} {af : List Nat} {r : List AOper}

theorem regW_eqT {t : TypeId} {x y : Opd} {cs ds : List AV} {us vs : List Value} {b : Bool} (hx : AS.ev ⟨fr, st⟩ x = .agg cs) (hy : AS.ev ⟨fr, st⟩ y = .agg ds) (hus : vals? cs = some us) (hvs : vals? ds = some vs) (hp : pureRun P (Op.equal t (.agg us.toArray) (.agg vs.toArray)) = some b)
    (h1 : fr.set d (.v (.bool b)) = fr1) (hk : regW P r K ⟨fr1, st⟩) : regW P (⟨some d, .eqs false t x y, none, af⟩ :: r) K ⟨fr, st⟩ := by
  refine regW_op (x := .v (.bool b)) (st' := st) ?_ h1 hk
  simp [semF, hx, hy, hus, hvs, hp]
theorem regW_neT {t : TypeId} {x y : Opd} {cs ds : List AV} {us vs : List Value} {b : Bool} (hx : AS.ev ⟨fr, st⟩ x = .agg cs) (hy : AS.ev ⟨fr, st⟩ y = .agg ds) (hus : vals? cs = some us) (hvs : vals? ds = some vs) (hp : pureRun P (Op.equal t (.agg us.toArray) (.agg vs.toArray)) = some b)
    (h1 : fr.set d (.v (.bool (!b))) = fr1) (hk : regW P r K ⟨fr1, st⟩) : regW P (⟨some d, .eqs true t x y, none, af⟩ :: r) K ⟨fr, st⟩ := by
  refine regW_op (x := .v (.bool (!b))) (st' := st) ?_ h1 hk
  simp [semF, hx, hy, hus, hvs, hp]

theorem freeze_nil (st : Store) : freeze [] st = st := by
  unfold freeze
  apply List.ext_getElem?
  intro i
  simp [List.getElem?_mapIdx]

/-- A slice literal of one struct. -/
theorem regW_bs1 {t : TypeId} {sz : Nat} {z : List AV} {x : Opd} {e : List AV} (hx : AS.ev ⟨fr, st⟩ x = .agg e) (hr : reifyL st e = some e) (hi : e.flatMap idC = []) (hl : e.length = sz) (h1 : fr.set d (.own st.length 0 1) = fr1) (h2 : st ++ [.row true t sz [e]] = st1) (hk : regW P r K ⟨fr1, st1⟩) :
    regW P (⟨some d, .bslice t sz 1 z [(0, x)], none, af⟩ :: r) K ⟨fr, st⟩ := by
  subst h2
  refine regW_op (x := .own st.length 0 1) (st' := st ++ [.row true t sz [e]]) ?_ h1 hk
  simp [semF, partsA, hx, AV.cells?, hr, hl, hi, freeze_nil]

/-- append(acc, c). -/
theorem regW_app {α : Type} {enc : α → List AV} {acc : List α} {c : α} {t t2 : TypeId} {sz sz2 bytes id id2 n : Nat} {f2 : Bool} {x y : Opd} (hx : AS.ev ⟨fr, st⟩ x = .own id 0 n) (hst : st[id]? = some (.row true t sz (acc.map enc))) (hn : n = acc.length) (hy : AS.ev ⟨fr, st⟩ y = .own id2 0 1)
    (hst2 : st[id2]? = some (.row f2 t2 sz2 [enc c])) (hl : (enc c).length = sz) (hroom : (acc.length + 1) * bytes ≤ maxRow) (hb : 0 < bytes) (h1 : fr.set d (.own st.length 0 (acc ++ [c]).length) = fr1) (h2 : st.set id .gone ++ [.row true t sz ((acc ++ [c]).map enc)] = st1) (hk : regW P r K ⟨fr1, st1⟩) :
    regW P (⟨some d, .append t sz bytes x y, none, af⟩ :: r) K ⟨fr, st⟩ := by
  subst h2 hn
  refine regW_op (x := .own st.length 0 (acc ++ [c]).length) (st' := st.set id .gone ++ [.row true t sz ((acc ++ [c]).map enc)]) ?_ h1 hk
  have hr2 : acc.length + 1 ≤ maxRow := by
    have : (acc.length + 1) * 1 ≤ (acc.length + 1) * bytes := Nat.mul_le_mul_left _ hb
    omega
  have hc : content st (.own id2 0 1) = some [enc c] := by simp [content, hst2]
  simp only [semF, hy, hc, hx, hst]
  rw [if_pos ⟨trivial, trivial, by simp, by simpa using hroom, by simpa using hr2, by simp [hl]⟩]
  have e : (List.map enc acc).take acc.length = acc.map enc := List.take_of_length_le (by simp)
  simp [e]

/-- append(acc, l...). -/
theorem regW_appL {α : Type} {enc : α → List AV} {acc l : List α} {t : TypeId} {sz bytes id n : Nat} {x y : Opd} (hx : AS.ev ⟨fr, st⟩ x = .own id 0 n) (hst : st[id]? = some (.row true t sz (acc.map enc))) (hn : n = acc.length) (hy : AS.ev ⟨fr, st⟩ y = .vs (l.map enc)) (hne : l ≠ [])
    (hl : ∀ c ∈ l, (enc c).length = sz) (hroom : (acc.length + l.length) * bytes ≤ maxRow) (hb : 0 < bytes) (h1 : fr.set d (.own st.length 0 (acc ++ l).length) = fr1) (h2 : st.set id .gone ++ [.row true t sz ((acc ++ l).map enc)] = st1) (hk : regW P r K ⟨fr1, st1⟩) :
    regW P (⟨some d, .append t sz bytes x y, none, af⟩ :: r) K ⟨fr, st⟩ := by
  subst h2 hn
  refine regW_op (x := .own st.length 0 (acc ++ l).length) (st' := st.set id .gone ++ [.row true t sz ((acc ++ l).map enc)]) ?_ h1 hk
  have hr2 : acc.length + l.length ≤ maxRow := by
    have : (acc.length + l.length) * 1 ≤ (acc.length + l.length) * bytes := Nat.mul_le_mul_left _ hb
    omega
  obtain ⟨c, l', rfl⟩ := List.exists_cons_of_ne_nil hne
  simp only [semF, hy, hx, hst, List.map_cons, content]
  rw [if_pos ⟨trivial, trivial, by simp, by simpa using hroom, by simpa using hr2, by
    simp only [List.all_cons, Bool.and_eq_true, beq_iff_eq, List.all_eq_true, List.mem_map]
    exact ⟨hl c (by simp), fun e ⟨q, hq, he⟩ => by rw [← he]; exact hl q (by simp [hq])⟩⟩]
  have e : (List.map enc acc).take acc.length = acc.map enc := List.take_of_length_le (by simp)
  simp [e]

theorem regW_appE {t : TypeId} {sz bytes id n : Nat} {x y : Opd} (hx : AS.ev ⟨fr, st⟩ x = .own id 0 n) (hy : AS.ev ⟨fr, st⟩ y = .vs []) (h1 : fr.set d (.own id 0 n) = fr1) (hk : regW P r K ⟨fr1, st⟩) : regW P (⟨some d, .append t sz bytes x y, none, af⟩ :: r) K ⟨fr, st⟩ := by
  refine regW_op (x := .own id 0 n) (st' := st) ?_ h1 hk
  simp [semF, hy, hx, content]

/-- l[1:]. -/
theorem regW_tail {α : Type} {enc : α → List AV} {c : α} {l : List α} {sz : Nat} {x : Opd} (hx : AS.ev ⟨fr, st⟩ x = .vs ((c :: l).map enc)) (hl : ∀ q : α, (enc q).length = sz) (h1 : fr.set d (.vs (l.map enc)) = fr1) (hk : regW P r K ⟨fr1, st⟩) :
    regW P (⟨some d, .slice sz x (some (.c (.v (.int .i64 1)))) none, none, af⟩ :: r) K ⟨fr, st⟩ := by
  refine regW_op (x := .vs (l.map enc)) (st' := st) ?_ h1 hk
  simp only [semF, hx, optI, ev_c]
  rw [if_pos ⟨by omega, by simp; omega, by simp, by simp [hl]⟩]
  congr 3
  simp
  exact List.take_of_length_le (by simp)

end

theorem weakO_row {f : Nat → Nat} {n : Nat} {o : AObj} {free : Bool} {t : TypeId} {sz : Nat} {es : List (List AV)} (h : o = .row free t sz es) : WeakO f n o (.row free t sz es) := h

end Go.Am
