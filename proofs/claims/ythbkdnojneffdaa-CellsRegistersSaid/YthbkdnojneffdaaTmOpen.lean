/- Arguments that came in, opened; a contract as the statements ask for it. -/
import Derived.Test.YthbkdnojneffdaaTm15
import Derived.Deep.Slices
import Derived.ChangeArms
import Derived.ChangeSame
namespace Go.Am
open Go.ChangeShapes Go.WideShapes Go.Deep Go.RowKit

/-- The blocks that are there. -/
def oldB (w : World) : Nat → Prop := fun b => b < w.heap.size

/-- What a type's cells stand for: lists of abstract values with S. -/
def Opens (P : Program) (t : TypeId) (S : List AV → Prop) : Prop :=
  ∀ {H : Type} (enc : TypeId × Value → H) (w : World) (base : Nat) (spare : Nat → Bool) (held : Bool) (fuel : Nat) (cs : List Value) (x : DataW H × List MemPlace), DataW.trod enc P w base spare held fuel t cs = some x →
    ∃ ys, S ys ∧ ys.length = cs.length ∧ ∀ (i : Nat) (y : AV) (u : Value), ys[i]? = some y → cs[i]? = some u → Rep m0 0 (oldB w) w y u

theorem cell?_lt {w : World} {a : Addr} {v : Value} (h : w.cell? a = some v) : a.block < w.heap.size := by
  unfold World.cell? at h
  split at h
  · rename_i hb
    exact (Array.getElem?_eq_some_iff.1 hb).1
  · cases h

theorem addr_plain (b o k : Nat) : (⟨b, o, none⟩ : Addr).add k = ⟨b, o + k, none⟩ := by
  unfold Addr.add
  split
  · rename_i h; subst h; rfl
  · rfl

theorem choose_list {α : Type} (n : Nat) (p : Nat → α → Prop) (h : ∀ i, i < n → ∃ a, p i a) : ∃ l : List α, l.length = n ∧ ∀ (i : Nat) (a : α), l[i]? = some a → p i a := by
  induction n with
  | zero => exact ⟨[], rfl, fun i a ha => by simp at ha⟩
  | succ n ih =>
    obtain ⟨l, hl, hp⟩ := ih fun i hi => h i (by omega)
    obtain ⟨a, ha⟩ := h n (by omega)
    refine ⟨l ++ [a], by simp [hl], fun i b hb => ?_⟩
    rcases Nat.lt_trichotomy i l.length with hi | hi | hi
    · rw [List.getElem?_append_left hi] at hb
      exact hp i b hb
    · rw [List.getElem?_append_right (by omega)] at hb
      have : i - l.length = 0 := by omega
      rw [this] at hb
      simp at hb
      subst hb
      rw [hi, hl]
      exact ha
    · rw [List.getElem?_append_right (by omega)] at hb
      obtain ⟨j, hj⟩ : ∃ j, i - l.length = j + 1 := ⟨i - l.length - 1, by omega⟩
      rw [hj] at hb
      simp at hb

theorem rep_one {w : World} {y : AV} {u : Value} (h : Rep m0 0 (oldB w) w y u) : ∀ (i : Nat) (z : AV) (v : Value), [y][i]? = some z → [u][i]? = some v → Rep m0 0 (oldB w) w z v := fun i z v h1 h2 => by
  cases i with
  | zero => simp at h1 h2; subst h1 h2; exact h
  | succ i => simp at h1

theorem opens_int {P : Program} {t : TypeId} {k : IntKind} (ht : P.underlying t = some (.int k)) : Opens P t (fun ys => ∃ n : Int, ys = [.v (.int k n)]) := fun enc w base spare held fuel cs x h => by
  obtain ⟨n, e, _⟩ := DataW.trod_int ht h
  subst e
  exact ⟨_, ⟨n, rfl⟩, rfl, rep_one (.v _)⟩
theorem opens_bool {P : Program} {t : TypeId} (ht : P.underlying t = some .bool) : Opens P t (fun ys => ∃ b : Bool, ys = [.v (.bool b)]) := fun enc w base spare held fuel cs x h => by
  obtain ⟨n, e, _⟩ := DataW.trod_bool ht h
  subst e
  exact ⟨_, ⟨n, rfl⟩, rfl, rep_one (.v _)⟩
theorem opens_string {P : Program} {t : TypeId} (ht : P.underlying t = some .string) : Opens P t (fun ys => ∃ b : ByteArray, ys = [.v (.string b)]) := fun enc w base spare held fuel cs x h => by
  obtain ⟨n, e, _⟩ := DataW.trod_string ht h
  subst e
  exact ⟨_, ⟨n, rfl⟩, rfl, rep_one (.v _)⟩

theorem encA_eok (c : Cd) (a : El c) : EOk (szC c) (encA c a) := by
  refine ⟨encA_len c a, fun y hy => ?_⟩
  have pv : ∀ (c : Cd) (l : List (El c)), (∀ a, ∀ y ∈ encA c a, Pure y) → Pure (.vs (l.map (encA c))) := fun c l h => .vs _ fun e he z hz => by
    obtain ⟨a, _, rfl⟩ := List.mem_map.1 he
    exact h a z hz
  have p1 : ∀ n, ∀ y ∈ encA .int n, Pure y := fun n y hy => by simp [encA, intA] at hy; subst hy; exact .v _
  have p2 : ∀ c, ∀ y ∈ encA .cell c, Pure y := fun c y hy => by
    simp only [encA, Cel.encA, List.mem_cons, List.not_mem_nil, or_false] at hy
    rcases hy with rfl | rfl | rfl | rfl | rfl | rfl <;> exact .v _
  have p3 : ∀ c, ∀ y ∈ encA .alt c, Pure y := fun c y hy => by
    simp only [encA, Alt.encA, List.mem_cons, List.not_mem_nil, or_false] at hy
    rcases hy with rfl | rfl | rfl | rfl | rfl <;> exact .v _
  have p4 : ∀ c, ∀ y ∈ encA .slot c, Pure y := fun c y hy => by
    simp only [encA, Slot.encA, List.mem_cons, List.not_mem_nil, or_false] at hy
    rcases hy with rfl | rfl | rfl
    · exact .v _
    · exact .v _
    · exact pv .alt c.alts p3
  cases c
  case int => simp [encA, intA] at hy; subst hy; exact ⟨rfl, .v _⟩
  case u8 => simp [encA] at hy; subst hy; exact ⟨rfl, .v _⟩
  case u64 => simp [encA] at hy; subst hy; exact ⟨rfl, .v _⟩
  case bool => simp [encA] at hy; subst hy; exact ⟨rfl, .v _⟩
  case str => simp [encA] at hy; subst hy; exact ⟨rfl, .v _⟩
  case val =>
    simp only [encA, Val.encA, List.mem_cons, List.not_mem_nil, or_false] at hy
    rcases hy with rfl | rfl | rfl | rfl <;> exact ⟨rfl, .v _⟩
  case cell =>
    simp only [encA, Cel.encA, List.mem_cons, List.not_mem_nil, or_false] at hy
    rcases hy with rfl | rfl | rfl | rfl | rfl | rfl <;> exact ⟨rfl, .v _⟩
  case alt =>
    simp only [encA, Alt.encA, List.mem_cons, List.not_mem_nil, or_false] at hy
    rcases hy with rfl | rfl | rfl | rfl | rfl <;> exact ⟨rfl, .v _⟩
  case slot =>
    refine ⟨?_, p4 a y hy⟩
    simp only [encA, Slot.encA, List.mem_cons, List.not_mem_nil, or_false] at hy
    rcases hy with rfl | rfl | rfl <;> rfl
  case spot =>
    simp only [encA, List.mem_cons, List.not_mem_nil, or_false] at hy
    rcases hy with rfl | rfl <;> exact ⟨rfl, .v _⟩
  case commit =>
    simp only [encA, List.mem_cons, List.not_mem_nil, or_false] at hy
    rcases hy with rfl | rfl | rfl | rfl | rfl
    · exact ⟨rfl, .v _⟩
    · exact ⟨rfl, pv .int _ p1⟩
    · exact ⟨rfl, pv .int _ p1⟩
    · exact ⟨rfl, .v _⟩
    · exact ⟨rfl, pv .cell _ p2⟩
  case mark =>
    simp only [encA, List.mem_cons, List.not_mem_nil, or_false] at hy
    rcases hy with rfl | rfl | rfl <;> exact ⟨rfl, .v _⟩
  case state => simp [encA] at hy; subst hy; exact ⟨rfl, pv .slot _ p4⟩
  case ctx =>
    simp only [encA, List.mem_cons, List.not_mem_nil, or_false] at hy
    rcases hy with rfl | rfl
    · exact ⟨rfl, pv .slot _ p4⟩
    · exact ⟨rfl, pv .int _ p1⟩
  case tri =>
    simp only [encA, List.mem_cons, List.not_mem_nil, or_false] at hy
    rcases hy with rfl | rfl | rfl <;> exact ⟨rfl, .v _⟩
  case ints => simp [encA] at hy; subst hy; exact ⟨rfl, pv .int _ p1⟩

/-- A slice. -/
theorem opens_slice {P : Program} {t e : TypeId} {c : Cd} (ht : P.underlying t = some (.slice e)) (hr : Opens P e (fun ys => ∃ a : El c, ys = encA c a)) (hC : P.cellsOf e = szC c) : Opens P t (fun ys => ∃ l : List (El c), ys = [.vs (l.map (encA c))]) := fun enc w base spare held fuel cs x h => by
  have hs : 0 < szC c := by cases c <;> decide
  rcases open_slice ht h with ⟨h0, _⟩ | ⟨a, len, cap, m, n, D, Pl, hcs, hb, hl, hm, hmm, hx, hi⟩
  · subst h0
    exact ⟨_, ⟨[], rfl⟩, rfl, rep_one (.vs0 _ _)⟩
  · subst hcs
    by_cases h0 : len = 0
    · subst h0
      exact ⟨_, ⟨[], rfl⟩, rfl, rep_one (.vs0 _ _)⟩
    rw [hC] at hi
    have hlm : len ≤ m := by rw [hmm]; split <;> omega
    obtain ⟨l, hl1, hl2⟩ := choose_list len (fun i (q : El c) => ∃ cs' : List Value, cs'.length = szC c ∧ (∀ j, j < szC c → w.cell? (a.add (i * szC c + j)) = cs'[j]?) ∧ ∀ (j : Nat) (y : AV) (u : Value), (encA c q)[j]? = some y → cs'[j]? = some u → Rep m0 0 (oldB w) w y u) (fun i him => by
      obtain ⟨cs', hc, ht'⟩ := hi i (by omega)
      obtain ⟨ys, ⟨q, rfl⟩, g1, g2⟩ := hr _ _ _ _ _ _ _ _ ht'
      obtain ⟨_, hcl, hat⟩ := World.cells?_some hc
      refine ⟨q, cs', by rw [← g1, encA_len], fun j hj => ?_, g2⟩
      rw [← hat j hj, Go.Deep.add_add])
    have hlt0 : 0 < l.length := by omega
    obtain ⟨cs0, q1, q2, _⟩ := hl2 0 l[0] (List.getElem?_eq_getElem hlt0)
    have hc0 := q2 0 hs
    have hv0 : cs0[0]? = some (cs0[0]'(by omega)) := List.getElem?_eq_getElem _
    rw [hv0] at hc0
    have hsp : a.spot = none := by have := World.cell?_spot hc0; simpa [Addr.add] using this
    have hblk : oldB w a.block := by have := cell?_lt hc0; simpa [Addr.add, oldB] using this
    obtain ⟨ab, ao, asp⟩ := a
    simp only at hsp hblk
    subst hsp
    refine ⟨_, ⟨l, rfl⟩, rfl, rep_one ?_⟩
    have hll : (l.map (encA c)).length = len := by simp [hl1]
    rw [← hll]
    have get : ∀ (i : Nat) (e : List AV) (j : Nat) (x : AV), (l.map (encA c))[i]? = some e → e[j]? = some x → ∃ u, w.cell? ⟨ab, ao + (i * szC c + j), none⟩ = some u ∧ Rep m0 0 (oldB w) w x u := fun i e j x he hx => by
      simp only [List.getElem?_map, Option.map_eq_some_iff] at he
      obtain ⟨q, hq, rfl⟩ := he
      obtain ⟨cs', c1, c2, c3⟩ := hl2 i q hq
      have hj : j < szC c := by have := (List.getElem?_eq_some_iff.1 hx).1; rwa [encA_len] at this
      have hcj : cs'[j]? = some (cs'[j]'(by omega)) := List.getElem?_eq_getElem _
      refine ⟨cs'[j]'(by omega), ?_, c3 j x _ hx hcj⟩
      have := c2 j hj
      rw [addr_plain] at this
      rw [this, hcj]
    refine .vs _ ab ao cap (szC c) (fun i j => (w.cell? ⟨ab, ao + (i * szC c + j), none⟩).getD undef) hblk (by rw [hll]; exact hl) hs (fun e he => ?_) (fun i e j x he hx => ?_) (fun i e j x he hx => ?_)
    · obtain ⟨q, _, rfl⟩ := List.mem_map.1 he
      exact encA_eok c q
    · obtain ⟨u, h1, _⟩ := get i e j x he hx
      simp [h1]
    · obtain ⟨u, h1, h2⟩ := get i e j x he hx
      simpa [h1] using h2

/-- Fields one behind another. -/
inductive OpensF (P : Program) : Nat → List Field → (List AV → Prop) → Prop
  | nil (off : Nat) : OpensF P off [] (fun ys => ys = [])
  | cons {off n : Nat} {f : Field} {fs : List Field} {S1 S2 : List AV → Prop} (ho : f.offset = off) (hn : P.cellsOf f.type = n) (h1 : Opens P f.type S1) (h2 : OpensF P (off + n) fs S2) : OpensF P off (f :: fs) (fun ys => ∃ y1 y2, ys = y1 ++ y2 ∧ S1 y1 ∧ S2 y2)

theorem opens_struct {P : Program} {t : TypeId} {n : Nat} {fs : List Field} {S : List AV → Prop} (ht : P.underlying t = some (.struct (P.fieldsOf t))) (hf : (P.fieldsOf t).toList = fs) (hC : P.cellsOf t = n) (hlast : fs.foldl (fun k f => k + P.cellsOf f.type) 0 = n) (h : OpensF P 0 fs S) : Opens P t S := fun enc w base spare held fuel cs x hx => by
  obtain ⟨xs, m, _, _, hl, hxl, hfi⟩ := DataW.trod_struct ht hx
  rw [hC] at hl
  have each : ∀ (i : Nat) (f : Field), fs[i]? = some f → ∃ y, DataW.trod enc P w base spare held m f.type ((cs.drop f.offset).take (P.cellsOf f.type)) = some y := fun i f hi => by
    have hi' : (P.fieldsOf t)[i]? = some f := by rw [← Array.getElem?_toList, hf]; exact hi
    have h1 := hfi i f hi'
    have h2 : i < xs.length := by
      have := (List.getElem?_eq_some_iff.1 hi).1
      rw [hxl, ← Array.length_toList, hf]; exact this
    exact ⟨_, h1.trans (List.getElem?_eq_getElem h2)⟩
  have key : ∀ (off : Nat) (gs : List Field) (S : List AV → Prop), OpensF P off gs S → (∀ f ∈ gs, ∃ y, DataW.trod enc P w base spare held m f.type ((cs.drop f.offset).take (P.cellsOf f.type)) = some y) → gs.foldl (fun k f => k + P.cellsOf f.type) off = n →
      ∃ ys, S ys ∧ ys.length = (cs.drop off).length ∧ ∀ (i : Nat) (y : AV) (u : Value), ys[i]? = some y → (cs.drop off)[i]? = some u → Rep m0 0 (oldB w) w y u := by
    intro off gs S hO
    induction hO with
    | nil off =>
      intro _ hfo
      simp only [List.foldl_nil] at hfo
      exact ⟨[], rfl, by simp; omega, fun i y u hy => by simp at hy⟩
    | @cons off n1 f fs S1 S2 ho hn h1 h2 ih =>
      intro hall hfo
      obtain ⟨y, hy⟩ := hall f (by simp)
      obtain ⟨y1, s1, l1, r1⟩ := h1 _ _ _ _ _ _ _ _ hy
      rw [List.foldl_cons, hn] at hfo
      obtain ⟨y2, s2, l2, r2⟩ := ih (fun g hg => hall g (by simp [hg])) hfo
      rw [ho, hn] at l1 r1
      have mono : ∀ (gs : List Field) (k : Nat), k ≤ gs.foldl (fun k f => k + P.cellsOf f.type) k := by
        intro gs
        induction gs with
        | nil => intro k; exact Nat.le_refl _
        | cons g gs ih => intro k; exact Nat.le_trans (Nat.le_add_right _ _) (ih _)
      have hle : off + n1 ≤ cs.length := by have := mono fs (off + n1); omega
      have hl1 : y1.length = n1 := by rw [l1]; simp; omega
      refine ⟨y1 ++ y2, ⟨y1, y2, rfl, s1, s2⟩, by simp at l2 ⊢; omega, fun i z u hz hu => ?_⟩
      rcases Nat.lt_or_ge i n1 with hi | hi
      · rw [List.getElem?_append_left (by omega)] at hz
        refine r1 i z u hz ?_
        rw [List.getElem?_take]
        simp [hi, hu]
      · rw [List.getElem?_append_right (by omega), hl1] at hz
        refine r2 (i - n1) z u hz ?_
        rw [List.getElem?_drop] at hu ⊢
        rw [← hu]
        congr 1
        omega
  have := key 0 fs S h (fun f hf' => by
    obtain ⟨i, hi, rfl⟩ := List.mem_iff_getElem.1 hf'
    exact each i _ (List.getElem?_eq_getElem hi)) hlast
  simpa using this

/-- One cell that came in. -/
theorem opens_arg {P : Program} {t : TypeId} {H : Type} {enc : TypeId × Value → H} {w : World} {base : Nat} {spare : Nat → Bool} {held : Bool} {fuel : Nat} {v : Value} {x : DataW H × List MemPlace} {α : Type} {f : α → AV} (ho : Opens P t (fun ys => ∃ a, ys = [f a])) (h : DataW.trod enc P w base spare held fuel t [v] = some x) : ∃ a, Rep m0 0 (oldB w) w (f a) v := by
  obtain ⟨ys, ⟨a, rfl⟩, _, hr⟩ := ho _ _ _ _ _ _ _ _ h
  exact ⟨a, hr 0 _ _ rfl rfl⟩

/-- A law that answers true, in any world. -/
theorem law_true {P : Program} {f : FuncId} {args : List AV} {w : World} {vals : Array Value} (hc : Contract P f args (.pure (.v (.bool true)))) (hs : vals.size = args.length) (hv : ∀ (i : Nat) (x : AV) (u : Value), args[i]? = some x → vals[i]? = some u → Rep m0 0 (oldB w) w x u) :
    Calls P f vals w fun e w' => e = .returned (.bool true) ∧ Below w.heap.size w w' := by
  refine (hc w (oldB w) vals (fun b hb => hb) hs hv).mono fun e w' ⟨v, he, hb, _, hr⟩ => ?_
  cases hr
  exact ⟨he, hb⟩

theorem reps_list {w : World} {args : List AV} {vals : Array Value} (h : ∀ (i : Nat) (x : AV) (u : Value), args[i]? = some x → vals.toList[i]? = some u → Rep m0 0 (oldB w) w x u) : ∀ (i : Nat) (x : AV) (u : Value), args[i]? = some x → vals[i]? = some u → Rep m0 0 (oldB w) w x u := fun i x u h1 h2 => h i x u h1 (by simpa using h2)
theorem reps_cons {w : World} {x : AV} {u : Value} {xs : List AV} {us : List Value} (h : Rep m0 0 (oldB w) w x u) (hr : ∀ (i : Nat) (x : AV) (u : Value), xs[i]? = some x → us[i]? = some u → Rep m0 0 (oldB w) w x u) : ∀ (i : Nat) (y : AV) (v : Value), (x :: xs)[i]? = some y → (u :: us)[i]? = some v → Rep m0 0 (oldB w) w y v := fun i y v h1 h2 => by
  cases i with
  | zero => simp at h1 h2; subst h1 h2; exact h
  | succ i => exact hr i y v (by simpa using h1) (by simpa using h2)
theorem reps_end {w : World} : ∀ (i : Nat) (x : AV) (u : Value), ([] : List AV)[i]? = some x → ([] : List Value)[i]? = some u → Rep m0 0 (oldB w) w x u := fun i x u h => by simp at h

end Go.Am
namespace Go.Am
theorem Opens.imp {P : Program} {t : TypeId} {S S' : List AV → Prop} (h : ∀ ys, S ys → S' ys) (ho : Opens P t S) : Opens P t S' := fun enc w base spare held fuel cs x hx => by
  obtain ⟨ys, h1, h2, h3⟩ := ho enc w base spare held fuel cs x hx
  exact ⟨ys, h ys h1, h2, h3⟩
abbrev OpC (P : Program) (t : TypeId) (c : Cd) : Prop := Opens P t (fun ys => ∃ a : El c, ys = encA c a)
abbrev OpL (P : Program) (t : TypeId) (c : Cd) : Prop := Opens P t (fun ys => ∃ l : List (El c), ys = [.vs (l.map (encA c))])
end Go.Am
