/- The abstract machine: steps over lists of data. -/
import Derived.Test.YthbkdnojneffdaaAmWeak
namespace Go.Am

section
variable {P : Program} {K : AS → Prop} {fr fr1 : List AV} {st : Store} {d : Nat} {af : List Nat} {r : List AOper}

theorem regW_iaM {α : Type} {l : List α} {enc : α → List AV} {k sz : Nat} {c : α} {kk : IntKind} {x i : Opd} (hx : AS.ev ⟨fr, st⟩ x = .vs (l.map enc)) (hi : AS.ev ⟨fr, st⟩ i = .v (.int kk (k : Int))) (hc : l[k]? = some c) (hl : (enc c).length = sz)
    (h1 : fr.set d (.eptr [enc c] 0 0) = fr1) (hk : regW P r K ⟨fr1, st⟩) : regW P (⟨some d, .ia sz x i, none, af⟩ :: r) K ⟨fr, st⟩ := by
  refine regW_op (x := .eptr [enc c] 0 0) (st' := st) ?_ h1 hk
  have hlt : k < l.length := (List.getElem?_eq_some_iff.1 hc).1
  simp only [semF, hx, hi]
  rw [if_pos (by simp; omega)]
  simp [hc, hl]

theorem regW_lenM {α : Type} {l : List α} {enc : α → List AV} {x : Opd} (hx : AS.ev ⟨fr, st⟩ x = .vs (l.map enc)) (h1 : fr.set d (.v (.int .i64 (l.length : Int))) = fr1) (hk : regW P r K ⟨fr1, st⟩) :
    regW P (⟨some d, .len x, none, af⟩ :: r) K ⟨fr, st⟩ := by
  refine regW_op (x := .v (.int .i64 (l.length : Int))) (st' := st) ?_ h1 hk
  simp [semF, hx]

theorem regW_add {t : TypeId} {x y : Opd} {a b c : Int} (hx : AS.ev ⟨fr, st⟩ x = .v (.int .i64 a)) (hy : AS.ev ⟨fr, st⟩ y = .v (.int .i64 b)) (hw : IntKind.i64.wrap (a + b) = c) (h1 : fr.set d (.v (.int .i64 c)) = fr1) (hk : regW P r K ⟨fr1, st⟩) :
    regW P (⟨some d, .bin .add t x y, none, af⟩ :: r) K ⟨fr, st⟩ := by
  refine regW_op (x := .v (.int .i64 c)) (st' := st) ?_ h1 hk
  subst hw
  simp only [semF, hx, hy, scalar, Bool.and_self, if_true, bin_add, Option.map_some]

theorem regW_sub {t : TypeId} {x y : Opd} {a b c : Int} (hx : AS.ev ⟨fr, st⟩ x = .v (.int .i64 a)) (hy : AS.ev ⟨fr, st⟩ y = .v (.int .i64 b)) (hw : IntKind.i64.wrap (a - b) = c) (h1 : fr.set d (.v (.int .i64 c)) = fr1) (hk : regW P r K ⟨fr1, st⟩) :
    regW P (⟨some d, .bin .sub t x y, none, af⟩ :: r) K ⟨fr, st⟩ := by
  refine regW_op (x := .v (.int .i64 c)) (st' := st) ?_ h1 hk
  subst hw
  simp only [semF, hx, hy, scalar, Bool.and_self, if_true, bin_sub, Option.map_some]

/-- An operation that leaves the objects alone. -/
theorem regW_opS {op : AOp} {x : AV} (hs : semF P op (AS.ev ⟨fr, st⟩) st = some (x, st)) (h1 : fr.set d x = fr1) (hk : regW P r K ⟨fr1, st⟩) : regW P (⟨some d, op, none, af⟩ :: r) K ⟨fr, st⟩ := regW_op hs h1 hk

/-- A whole element is loaded. -/
theorem regW_ldE {sz : Nat} {x : Opd} {e : List AV} (hx : AS.ev ⟨fr, st⟩ x = .eptr [e] 0 0) (hl : e.length = sz) (h1 : fr.set d (.agg e) = fr1) (hk : regW P r K ⟨fr1, st⟩) : regW P (⟨some d, .load true sz x, none, af⟩ :: r) K ⟨fr, st⟩ := by
  refine regW_op (x := .agg e) (st' := st) ?_ h1 hk
  subst hl
  simp [semF, hx, getCells]

/-- A whole block is loaded. -/
theorem regW_ldB {sz id : Nat} {x : Opd} {t : TypeId} {e : List AV} (hx : AS.ev ⟨fr, st⟩ x = .ptr id 0) (hst : st[id]? = some (.blk t e)) (hl : e.length = sz) (h1 : fr.set d (.agg e) = fr1) (hk : regW P r K ⟨fr1, st⟩) : regW P (⟨some d, .load true sz x, none, af⟩ :: r) K ⟨fr, st⟩ := by
  refine regW_op (x := .agg e) (st' := st) ?_ h1 hk
  subst hl
  simp [semF, hx, hst, getCells]

/-- A whole block is stored. -/
theorem regW_stB {sz id : Nat} {x y : Opd} {t : TypeId} {e cs : List AV} {st1 : Store} (hx : AS.ev ⟨fr, st⟩ x = .ptr id 0) (hy : AS.ev ⟨fr, st⟩ y = .agg e) (hst : st[id]? = some (.blk t cs)) (hl : e.length = sz) (hl' : cs.length = sz) (hone : e.all AV.one = true) (h1 : st.set id (.blk t e) = st1) (hk : regW P r K ⟨fr, st1⟩) :
    regW P (⟨none, .store sz x y, none, af⟩ :: r) K ⟨fr, st⟩ := by
  subst h1
  refine regW_opN (x := .v undef) (st' := st.set id (.blk t e)) ?_ hk
  subst hl
  simp only [semF, hx, hy, AV.cells?, hst]
  have hd : cs.drop e.length = [] := List.drop_eq_nil_of_le (by omega)
  simp [splice, hl', hone, hd]

/-- i + 1 for an index. -/
theorem wrap_succ (k : Nat) (h : k < 4611686018427387904) : IntKind.i64.wrap ((k : Int) + 1) = ((k + 1 : Nat) : Int) := by
  rw [wrap_id _ (by omega) (by omega)]; omega
theorem wrap_pred (k : Nat) (h : k < 4611686018427387904) (h0 : 0 < k) : IntKind.i64.wrap ((k : Int) - 1) = ((k - 1 : Nat) : Int) := by
  rw [wrap_id _ (by omega) (by omega)]; omega

end
end Go.Am
