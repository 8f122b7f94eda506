/- The arguments of the laws about cells, opened. -/
import Derived.Test.YthbkdnojneffdaaT2
import Derived.Test.YthbkdnojneffdaaAmOpen
namespace Go.Proofs.Ythbkdnojneffdaa
open Go.Am Go.ChangeShapes Go.WideShapes Go.Deep

def Val.vals (v : Val) : List Value := [.int .i64 v.n, .bool v.flag, .string v.text, .int .i64 v.ref]
def Cel.vals (c : Cel) : List Value := [.int .i64 c.id, .int .i64 c.field, .int .i64 c.v.n, .bool c.v.flag, .string c.v.text, .int .i64 c.v.ref]
theorem enc_eq : (fun a => (Cel.vals a).map AV.v) = Cel.enc := rfl

theorem cs28 : Try.prog.cellsOf 28 = 4 := by kernel_rfl
theorem cs31 : Try.prog.cellsOf 31 = 6 := by kernel_rfl
theorem cs3 : Try.prog.cellsOf 3 = 1 := by kernel_rfl
theorem cs4 : Try.prog.cellsOf 4 = 1 := by kernel_rfl
theorem cs9 : Try.prog.cellsOf 9 = 1 := by kernel_rfl

theorem len4 {α : Type} : ∀ {l : List α}, l.length = 4 → ∃ a b c d, l = [a, b, c, d]
  | [a, b, c, d], _ => ⟨a, b, c, d, rfl⟩
theorem len6 {α : Type} : ∀ {l : List α}, l.length = 6 → ∃ a b c d e f, l = [a, b, c, d, e, f]
  | [a, b, c, d, e, f], _ => ⟨a, b, c, d, e, f, rfl⟩

theorem reads28 : Reads Try.prog 28 Val.vals := by
  intro H enc w base spare held fuel cs x h
  obtain ⟨xs, n, _, _, hl, hx, hf⟩ := DataW.trod_struct u28 h
  rw [cs28] at hl
  have f : ∀ i (hi : i < 4), ∃ y, DataW.trod enc Try.prog w base spare held n ((Try.prog.fieldsOf 28).toList[i]'(by rw [f28]; exact hi)).type ((cs.drop ((Try.prog.fieldsOf 28).toList[i]'(by rw [f28]; exact hi)).offset).take (Try.prog.cellsOf ((Try.prog.fieldsOf 28).toList[i]'(by rw [f28]; exact hi)).type)) = some y := fun i hi => by
    have hsz : (Try.prog.fieldsOf 28).size = 4 := by rw [← Array.length_toList, f28]; rfl
    have h1 := hf i ((Try.prog.fieldsOf 28).toList[i]'(by rw [f28]; exact hi)) (by rw [← Array.getElem?_toList]; exact List.getElem?_eq_getElem _)
    have h2 : i < xs.length := by rw [hx, hsz]; exact hi
    exact ⟨_, h1.trans (List.getElem?_eq_getElem h2)⟩
  obtain ⟨c0, c1, c2, c3, rfl⟩ := len4 hl
  obtain ⟨y0, g0⟩ := f 0 (by omega)
  obtain ⟨y1, g1⟩ := f 1 (by omega)
  obtain ⟨y2, g2⟩ := f 2 (by omega)
  obtain ⟨y3, g3⟩ := f 3 (by omega)
  simp only [f28, List.getElem_cons_zero, List.getElem_cons_succ, cs3, cs4, cs9, List.drop_zero, List.drop_succ_cons, List.take_succ_cons, List.take_zero] at g0 g1 g2 g3
  obtain ⟨a0, e0, _⟩ := DataW.trod_int u3 g0
  obtain ⟨a1, e1, _⟩ := DataW.trod_bool u4 g1
  obtain ⟨a2, e2, _⟩ := DataW.trod_string u9 g2
  obtain ⟨a3, e3, _⟩ := DataW.trod_int u3 g3
  simp only [List.cons.injEq, and_true] at e0 e1 e2 e3
  exact ⟨⟨a0, a1, a2, a3⟩, by simp [Val.vals, e0, e1, e2, e3]⟩

theorem reads31 : Reads Try.prog 31 Cel.vals := by
  intro H enc w base spare held fuel cs x h
  obtain ⟨xs, n, _, _, hl, hx, hf⟩ := DataW.trod_struct u31 h
  rw [cs31] at hl
  have f : ∀ i (hi : i < 3), ∃ y, DataW.trod enc Try.prog w base spare held n ((Try.prog.fieldsOf 31).toList[i]'(by rw [f31]; exact hi)).type ((cs.drop ((Try.prog.fieldsOf 31).toList[i]'(by rw [f31]; exact hi)).offset).take (Try.prog.cellsOf ((Try.prog.fieldsOf 31).toList[i]'(by rw [f31]; exact hi)).type)) = some y := fun i hi => by
    have hsz : (Try.prog.fieldsOf 31).size = 3 := by rw [← Array.length_toList, f31]; rfl
    have h1 := hf i ((Try.prog.fieldsOf 31).toList[i]'(by rw [f31]; exact hi)) (by rw [← Array.getElem?_toList]; exact List.getElem?_eq_getElem _)
    have h2 : i < xs.length := by rw [hx, hsz]; exact hi
    exact ⟨_, h1.trans (List.getElem?_eq_getElem h2)⟩
  obtain ⟨c0, c1, c2, c3, c4, c5, rfl⟩ := len6 hl
  obtain ⟨y0, g0⟩ := f 0 (by omega)
  obtain ⟨y1, g1⟩ := f 1 (by omega)
  obtain ⟨y2, g2⟩ := f 2 (by omega)
  simp only [f31, List.getElem_cons_zero, List.getElem_cons_succ, cs3, cs28, List.drop_zero, List.drop_succ_cons, List.take_succ_cons, List.take_zero] at g0 g1 g2
  obtain ⟨a0, e0, _⟩ := DataW.trod_int u3 g0
  obtain ⟨a1, e1, _⟩ := DataW.trod_int u3 g1
  obtain ⟨v, e2⟩ := reads28 _ _ _ _ _ _ _ _ g2
  simp only [List.cons.injEq, and_true, Val.vals] at e0 e1 e2
  exact ⟨⟨a0, a1, v⟩, by simp [Cel.vals, e0, e1, e2]⟩

theorem u22 : Try.prog.underlying 22 = some (.slice 31) := by kernel_rfl

/-- A list of cells. -/
theorem open_cells {H : Type} {enc : TypeId × Value → H} {w : World} {base : Nat} {spare : Nat → Bool} {held : Bool} {fuel : Nat} {v : Value} {x : DataW H × List MemPlace} (h : DataW.trod enc Try.prog w base spare held fuel 22 [v] = some x) : ∃ l : List Cel, Rep m0 0 (oldB w) w (encL l) v := by
  obtain ⟨l, hl⟩ := open_rows u22 reads31 cs31 (by decide) (fun a => rfl) (fun a c hc => by
    simp only [Cel.vals, List.mem_cons, List.not_mem_nil, or_false] at hc
    rcases hc with rfl | rfl | rfl | rfl | rfl | rfl <;> rfl) h
  exact ⟨l, hl⟩

end Go.Proofs.Ythbkdnojneffdaa
