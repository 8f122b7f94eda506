/- The abstract machine: arguments that came in, opened; a contract as the statements ask for it. -/
import Derived.Test.YthbkdnojneffdaaAmEq
import Derived.Deep.Slices
import Derived.ChangeArms
import Derived.ChangeSame
namespace Go.Am
open Go.ChangeShapes Go.WideShapes Go.Deep Go.RowKit

/-- What a type's cells are, by data 'α'. -/
def Reads (P : Program) (t : TypeId) {α : Type} (vals : α → List Value) : Prop :=
  ∀ {H : Type} (enc : TypeId × Value → H) (w : World) (base : Nat) (spare : Nat → Bool) (held : Bool) (fuel : Nat) (cs : List Value) (x : DataW H × List MemPlace), DataW.trod enc P w base spare held fuel t cs = some x → ∃ a, cs = vals a

/-- The blocks that are there. -/
def oldB (w : World) : Nat → Prop := fun b => b < w.heap.size

theorem cell?_lt {w : World} {a : Addr} {v : Value} (h : w.cell? a = some v) : a.block < w.heap.size := by
  unfold World.cell? at h
  split at h
  · rename_i hb
    exact (Array.getElem?_eq_some_iff.1 hb).1
  · cases h

theorem addr_plain (b o k : Nat) : (⟨b, o, none⟩ : Addr).add k = ⟨b, o + k, none⟩ := by
  unfold Addr.add
  split
  · rename_i h; subst h; rfl
  · rfl

theorem choose_list {α : Type} (n : Nat) (p : Nat → α → Prop) (h : ∀ i, i < n → ∃ a, p i a) : ∃ l : List α, l.length = n ∧ ∀ (i : Nat) (a : α), l[i]? = some a → p i a := by
  induction n with
  | zero => exact ⟨[], rfl, fun i a ha => by simp at ha⟩
  | succ n ih =>
    obtain ⟨l, hl, hp⟩ := ih fun i hi => h i (by omega)
    obtain ⟨a, ha⟩ := h n (by omega)
    refine ⟨l ++ [a], by simp [hl], fun i b hb => ?_⟩
    rcases Nat.lt_trichotomy i l.length with hi | hi | hi
    · rw [List.getElem?_append_left hi] at hb
      exact hp i b hb
    · rw [List.getElem?_append_right (by omega)] at hb
      have : i - l.length = 0 := by omega
      rw [this] at hb
      simp at hb
      subst hb
      rw [hi, hl]
      exact ha
    · rw [List.getElem?_append_right (by omega)] at hb
      obtain ⟨j, hj⟩ : ∃ j, i - l.length = j + 1 := ⟨i - l.length - 1, by omega⟩
      rw [hj] at hb
      simp at hb

/-- A slice of elements without pointers. -/
theorem open_rows {H : Type} {enc : TypeId × Value → H} {P : Program} {w : World} {base : Nat} {spare : Nat → Bool} {held : Bool} {t e : TypeId} {α : Type} {vals : α → List Value} {sz fuel : Nat} {v : Value} {x : DataW H × List MemPlace} (ht : P.underlying t = some (.slice e)) (hr : Reads P e vals) (hC : P.cellsOf e = sz) (hs : 0 < sz) (hlen : ∀ a, (vals a).length = sz) (hone : ∀ a, ∀ c ∈ vals a, (AV.v c).one = true)
    (h : DataW.trod enc P w base spare held fuel t [v] = some x) : ∃ l : List α, Rep m0 0 (oldB w) w (.vs (l.map fun a => (vals a).map AV.v)) v := by
  rcases open_slice ht h with ⟨h0, _⟩ | ⟨a, len, cap, m, n, D, Pl, hcs, hb, hl, hm, hmm, hx, hi⟩
  · simp only [List.cons.injEq, and_true] at h0
    subst h0
    exact ⟨[], .vs0 _ _⟩
  · simp only [List.cons.injEq, and_true] at hcs
    subst hcs
    by_cases h0 : len = 0
    · subst h0
      exact ⟨[], .vs0 _ _⟩
    rw [hC] at hi
    have hlm : len ≤ m := by rw [hmm]; split <;> omega
    obtain ⟨l, hl1, hl2⟩ := choose_list len (fun i (q : α) => ∀ j, j < sz → w.cell? (a.add (i * sz + j)) = (vals q)[j]?) (fun i him => by
      obtain ⟨cs', hc, ht'⟩ := hi i (by omega)
      obtain ⟨q, hq⟩ := hr _ _ _ _ _ _ _ _ ht'
      obtain ⟨_, hcl, hat⟩ := World.cells?_some hc
      refine ⟨q, fun j hj => ?_⟩
      rw [← hq, ← hat j hj, Go.Deep.add_add])
    have hlt0 : 0 < l.length := by omega
    have hc0 := hl2 0 l[0] (List.getElem?_eq_getElem hlt0) 0 hs
    have hv0 : (vals l[0])[0]? = some ((vals l[0])[0]'(by rw [hlen]; exact hs)) := List.getElem?_eq_getElem _
    rw [hv0] at hc0
    have hsp : a.spot = none := by have := World.cell?_spot hc0; simpa [Addr.add] using this
    have hblk : oldB w a.block := by have := cell?_lt hc0; simpa [Addr.add, oldB] using this
    obtain ⟨ab, ao, asp⟩ := a
    simp only at hsp hblk
    subst hsp
    refine ⟨l, ?_⟩
    have hll : (l.map fun a => (vals a).map AV.v).length = len := by simp [hl1]
    rw [← hll]
    have get : ∀ (i : Nat) (e : List AV) (j : Nat) (x : AV), (l.map fun a => (vals a).map AV.v)[i]? = some e → e[j]? = some x → ∃ (q : α) (u : Value), l[i]? = some q ∧ (vals q)[j]? = some u ∧ x = .v u ∧ j < sz := fun i e j x he hx => by
      simp only [List.getElem?_map, Option.map_eq_some_iff] at he
      obtain ⟨q, hq, rfl⟩ := he
      simp only [List.getElem?_map, Option.map_eq_some_iff] at hx
      obtain ⟨u, hu, rfl⟩ := hx
      refine ⟨q, u, hq, hu, rfl, ?_⟩
      have := (List.getElem?_eq_some_iff.1 hu).1
      rw [hlen] at this
      exact this
    refine .vs _ ab ao cap sz (fun i j => ((l[i]?).bind fun q => (vals q)[j]?).getD undef) hblk (by rw [hll]; exact hl) hs (fun e he => ?_) (fun i e j x he hx => ?_) (fun i e j x he hx => ?_)
    · obtain ⟨q, _, rfl⟩ := List.mem_map.1 he
      refine ⟨by simp [hlen], fun c hc => ?_⟩
      obtain ⟨u, hu, rfl⟩ := List.mem_map.1 hc
      exact ⟨hone q u hu, .v u⟩
    · obtain ⟨q, u, h1, h2, rfl, h3⟩ := get i e j x he hx
      have := hl2 i q h1 j h3
      rw [h2, addr_plain] at this
      simpa [h1, h2] using this
    · obtain ⟨q, u, h1, h2, rfl, h3⟩ := get i e j x he hx
      simp only [h1, h2, Option.bind_some, Option.getD_some]
      exact .v u

/-- A law that answers true, in any world. -/
theorem law_true {P : Program} {f : FuncId} {args : List AV} {w : World} {vals : Array Value} (hc : Contract P f args (.pure (.v (.bool true)))) (hs : vals.size = args.length) (hv : ∀ (i : Nat) (x : AV) (u : Value), args[i]? = some x → vals[i]? = some u → Rep m0 0 (oldB w) w x u) :
    Calls P f vals w fun e w' => e = .returned (.bool true) ∧ Below w.heap.size w w' := by
  refine (hc w (oldB w) vals (fun b hb => hb) hs hv).mono fun e w' ⟨v, he, hb, _, hr⟩ => ?_
  cases hr
  exact ⟨he, hb⟩

theorem reps_nil {w : World} : ∀ (i : Nat) (x : AV) (u : Value), ([] : List AV)[i]? = some x → (#[] : Array Value)[i]? = some u → Rep m0 0 (oldB w) w x u := fun i x u h => by simp at h
theorem reps_list {w : World} {args : List AV} {vals : Array Value} (h : ∀ (i : Nat) (x : AV) (u : Value), args[i]? = some x → vals.toList[i]? = some u → Rep m0 0 (oldB w) w x u) : ∀ (i : Nat) (x : AV) (u : Value), args[i]? = some x → vals[i]? = some u → Rep m0 0 (oldB w) w x u := fun i x u h1 h2 => h i x u h1 (by simpa using h2)
theorem reps_cons {w : World} {x : AV} {u : Value} {xs : List AV} {us : List Value} (h : Rep m0 0 (oldB w) w x u) (hr : ∀ (i : Nat) (x : AV) (u : Value), xs[i]? = some x → us[i]? = some u → Rep m0 0 (oldB w) w x u) : ∀ (i : Nat) (y : AV) (v : Value), (x :: xs)[i]? = some y → (u :: us)[i]? = some v → Rep m0 0 (oldB w) w y v := fun i y v h1 h2 => by
  cases i with
  | zero => simp at h1 h2; subst h1 h2; exact h
  | succ i => exact hr i y v (by simpa using h1) (by simpa using h2)
theorem reps_end {w : World} : ∀ (i : Nat) (x : AV) (u : Value), ([] : List AV)[i]? = some x → ([] : List Value)[i]? = some u → Rep m0 0 (oldB w) w x u := fun i x u h => by simp at h

end Go.Am
