/- The abstract machine: values, objects, and what they stand for in a world. Generic over the program. -/
import Derived.WalkKit
import Derived.Maps.AppendAt
namespace Go.Am

/-- Abstract values. -/
inductive AV where
  | v (x : Value)
  | agg (cs : List AV)
  | tup (cs : List AV)
  | nils
  | vs (es : List (List AV))
  | own (id off len : Nat)
  | ptr (id off : Nat)
  | rptr (id i off : Nat)
  | eptr (es : List (List AV)) (i off : Nat)
  | fn (f : FuncId) (cap : List AV)
  | mp (id : Nat)
  | und
  deriving Inhabited

/-- Abstract objects: a block of cells; a row of elements of a size (free: it may still be appended to or written). -/
inductive AObj where
  | blk (t : TypeId) (cs : List AV)
  | row (free : Bool) (t : TypeId) (sz : Nat) (es : List (List AV))
  | gone
  deriving Inhabited

abbrev Store := List AObj

/-- Where objects lie: block, and for a row its capacity and element size. -/
structure Loc where
  b : Nat
  cap : Nat
  sz : Nat
  nil : Bool

/-- The slice that begins at 'off' in such a row. -/
def Loc.sl (l : Loc) (off len : Nat) : Value := if l.nil then .slice none 0 0 else .slice (some ⟨l.b, off * l.sz, none⟩) len (l.cap - off)
theorem Loc.sl_nil {l : Loc} (h : l.nil = true) (off len : Nat) : l.sl off len = .slice none 0 0 := by simp [Loc.sl, h]
theorem Loc.sl_not {l : Loc} (h : l.nil = false) (off len : Nat) : l.sl off len = .slice (some ⟨l.b, off * l.sz, none⟩) len (l.cap - off) := by simp [Loc.sl, h]
abbrev LMap := Nat → Loc

/-- No ids. -/
inductive Pure : AV → Prop
  | v (x : Value) : Pure (.v x)
  | und : Pure .und
  | agg (cs : List AV) (h : ∀ c ∈ cs, Pure c) : Pure (.agg cs)
  | tup (cs : List AV) (h : ∀ c ∈ cs, Pure c) : Pure (.tup cs)
  | fn (f : FuncId) (cs : List AV) (h : ∀ c ∈ cs, Pure c) : Pure (.fn f cs)
  | nils : Pure .nils
  | vs (es : List (List AV)) (h : ∀ e ∈ es, ∀ c ∈ e, Pure c) : Pure (.vs es)
  | eptr (es : List (List AV)) (i off : Nat) (h : ∀ e ∈ es, ∀ c ∈ e, Pure c) : Pure (.eptr es i off)

def AV.one : AV → Bool
  | .agg _ | .v (.agg _) | .v (.tuple _) | .tup _ | .und => false
  | _ => true

/-- An element of 'sz' cells, each of one cell and without ids. -/
def EOk (sz : Nat) (e : List AV) : Prop := e.length = sz ∧ ∀ c ∈ e, c.one = true ∧ Pure c

/-- 'x' stands for the value 'u': ids below 'n' lie as 'm' says; immutable memory is that of the blocks in 'I'. -/
inductive Rep (m : LMap) (n : Nat) (I : Nat → Prop) (w : World) : AV → Value → Prop
  | v (x : Value) : Rep m n I w (.v x) x
  | und (x : Value) : Rep m n I w .und x
  | agg (cs : List AV) (us : Array Value) (hl : us.size = cs.length) (h : ∀ (i : Nat) (c : AV) (u : Value), cs[i]? = some c → us[i]? = some u → Rep m n I w c u) : Rep m n I w (.agg cs) (.agg us)
  | tup (cs : List AV) (us : Array Value) (hl : us.size = cs.length) (h : ∀ (i : Nat) (c : AV) (u : Value), cs[i]? = some c → us[i]? = some u → Rep m n I w c u) : Rep m n I w (.tup cs) (.tuple us)
  | fn (f : FuncId) (cs : List AV) (us : Array Value) (hl : us.size = cs.length) (h : ∀ (i : Nat) (c : AV) (u : Value), cs[i]? = some c → us[i]? = some u → Rep m n I w c u) : Rep m n I w (.fn f cs) (.func (.func f) #[] us)
  | mp (id : Nat) (hid : id < n) : Rep m n I w (.mp id) (.map (some (m id).b))
  | nils : Rep m n I w .nils (.slice none 0 0)
  | vs0 (A : Option Addr) (c : Nat) : Rep m n I w (.vs []) (.slice A 0 c)
  | vs (es : List (List AV)) (b o c sz : Nat) (u : Nat → Nat → Value) (hI : I b) (hc : es.length ≤ c) (hs : 0 < sz) (hsz : ∀ e ∈ es, EOk sz e)
      (hcell : ∀ (i : Nat) (e : List AV) (j : Nat) (x : AV), es[i]? = some e → e[j]? = some x → w.cell? ⟨b, o + (i * sz + j), none⟩ = some (u i j))
      (hr : ∀ (i : Nat) (e : List AV) (j : Nat) (x : AV), es[i]? = some e → e[j]? = some x → Rep m n I w x (u i j)) :
      Rep m n I w (.vs es) (.slice (some ⟨b, o, none⟩) es.length c)
  | own (id off len : Nat) (hid : id < n) (hl : off + len ≤ (m id).cap) (hn : (m id).nil = true → (m id).cap = 0) : Rep m n I w (.own id off len) ((m id).sl off len)
  | ptr (id off : Nat) (hid : id < n) : Rep m n I w (.ptr id off) (.pointer (some ⟨(m id).b, off, none⟩))
  | rptr (id i off : Nat) (hid : id < n) : Rep m n I w (.rptr id i off) (.pointer (some ⟨(m id).b, i * (m id).sz + off, none⟩))
  | eptr (es : List (List AV)) (i off b o sz : Nat) (u : Nat → Nat → Value) (hI : I b) (hs : 0 < sz) (hsz : ∀ e ∈ es, EOk sz e)
      (hcell : ∀ (i : Nat) (e : List AV) (j : Nat) (x : AV), es[i]? = some e → e[j]? = some x → w.cell? ⟨b, o + (i * sz + j), none⟩ = some (u i j))
      (hr : ∀ (i : Nat) (e : List AV) (j : Nat) (x : AV), es[i]? = some e → e[j]? = some x → Rep m n I w x (u i j)) :
      Rep m n I w (.eptr es i off) (.pointer (some ⟨b, o + (i * sz + off), none⟩))

/-- What a value stands for lasts: more ids, more immutable blocks, a world that keeps these. -/
theorem Rep.mono {m m' : LMap} {n n' : Nat} {I I' : Nat → Prop} {w w' : World} {x : AV} {u : Value} (hn : n ≤ n') (hm : ∀ k, k < n → m' k = m k) (hI : ∀ b, I b → I' b)
    (hw : ∀ b, I b → w'.heap[b]? = w.heap[b]?) (h : Rep m n I w x u) : Rep m' n' I' w' x u := by
  induction h with
  | v x => exact .v x
  | und x => exact .und x
  | agg cs us hl _ ih => exact .agg cs us hl ih
  | tup cs us hl _ ih => exact .tup cs us hl ih
  | fn f cs us hl _ ih => exact .fn f cs us hl ih
  | mp id hid => rw [← hm id hid]; exact .mp id (by omega)
  | nils => exact .nils
  | vs0 A c => exact .vs0 A c
  | vs es b o c sz u hIb hc hs hsz hcell _ ih =>
    exact .vs es b o c sz u (hI _ hIb) hc hs hsz (fun i e j x h1 h2 => (World.cell?_of_block (hw b hIb)).trans (hcell i e j x h1 h2)) ih
  | own id off len hid hl hn =>
    rw [← hm id hid] at hl hn ⊢
    exact .own id off len (by omega) hl hn
  | ptr id off hid => rw [← hm id hid]; exact .ptr id off (by omega)
  | rptr id i off hid => rw [← hm id hid]; exact .rptr id i off (by omega)
  | eptr es i off b o sz u hIb hs hsz hcell _ ih =>
    exact .eptr es i off b o sz u (hI _ hIb) hs hsz (fun i e j x h1 h2 => (World.cell?_of_block (hw b hIb)).trans (hcell i e j x h1 h2)) ih

/-- What has no ids asks nothing of the map. -/
theorem Rep.of_pure {m m' : LMap} {n n' : Nat} {I : Nat → Prop} {w : World} {x : AV} {u : Value} (h : Rep m n I w x u) (hp : Pure x) : Rep m' n' I w x u := by
  induction h with
  | v x => exact .v x
  | und x => exact .und x
  | agg cs us hl _ ih => cases hp with | agg _ hp => exact .agg cs us hl (fun i c u h1 h2 => ih i c u h1 h2 (hp c (List.mem_of_getElem? h1)))
  | tup cs us hl _ ih => cases hp with | tup _ hp => exact .tup cs us hl (fun i c u h1 h2 => ih i c u h1 h2 (hp c (List.mem_of_getElem? h1)))
  | nils => exact .nils
  | vs0 A c => exact .vs0 A c
  | vs es b o c sz u hIb hc hs hsz hcell _ ih =>
    cases hp with | vs _ hp => exact .vs es b o c sz u hIb hc hs hsz hcell (fun i e j x h1 h2 => ih i e j x h1 h2 (hp e (List.mem_of_getElem? h1) x (List.mem_of_getElem? h2)))
  | fn f cs us hl _ ih => cases hp with | fn _ _ hp => exact .fn f cs us hl (fun i c u h1 h2 => ih i c u h1 h2 (hp c (List.mem_of_getElem? h1)))
  | mp id hid => cases hp
  | own id off len hid hl hn => cases hp
  | ptr id off hid => cases hp
  | rptr id i off hid => cases hp
  | eptr es i off b o sz u hIb hs hsz hcell _ ih =>
    cases hp with | eptr _ _ _ hp => exact .eptr es i off b o sz u hIb hs hsz hcell (fun i e j x h1 h2 => ih i e j x h1 h2 (hp e (List.mem_of_getElem? h1) x (List.mem_of_getElem? h2)))

/-- The cells of a value that is stored. -/
def AV.cells? : AV → Option (List AV)
  | .agg cs => some cs
  | .v (.agg _) | .v (.tuple _) | .tup _ | .und => none
  | x => some [x]

theorem Rep.cells {m : LMap} {n : Nat} {I : Nat → Prop} {w : World} {x : AV} {u : Value} {cs : List AV} (h : Rep m n I w x u) (hc : x.cells? = some cs) :
    u.cells.size = cs.length ∧ ∀ (i : Nat) (c : AV) (y : Value), cs[i]? = some c → u.cells[i]? = some y → Rep m n I w c y := by
  cases h with
  | agg cs' us hl h => simp only [AV.cells?, Option.some.injEq] at hc; subst hc; exact ⟨hl, h⟩
  | tup cs us hl h => simp [AV.cells?] at hc
  | und => simp [AV.cells?] at hc
  | v x =>
    have : cs = [.v u] ∧ u.cells = #[u] := by
      cases u <;> simp_all [AV.cells?, Value.cells]
    obtain ⟨rfl, hu⟩ := this
    rw [hu]
    exact ⟨rfl, fun i c y h1 h2 => by
      cases i <;> simp at h1 h2
      subst h1 h2
      exact .v _⟩
  | own id off len hid hl hn =>
    simp only [AV.cells?, Option.some.injEq] at hc
    subst hc
    have e : ((m id).sl off len).cells = #[(m id).sl off len] := by unfold Loc.sl; split <;> rfl
    rw [e]
    refine ⟨rfl, fun i c y h1 h2 => ?_⟩
    cases i <;> simp at h1 h2
    subst h1 h2
    exact .own id off len hid hl hn
  | _ =>
    simp only [AV.cells?, Option.some.injEq] at hc
    subst hc
    refine ⟨rfl, fun i c y h1 h2 => ?_⟩
    cases i <;> simp [Value.cells] at h1 h2
    subst h1 h2
    constructor <;> assumption

theorem Rep.one {m : LMap} {n : Nat} {I : Nat → Prop} {w : World} {x : AV} {u : Value} (h : Rep m n I w x u) (hc : x.one = true) : u.oneCell' = true := by
  cases h with
  | v x => cases u <;> simp_all [AV.one, Value.oneCell']
  | own id off len hid hl hn => unfold Loc.sl; split <;> rfl
  | _ => simp_all [AV.one, Value.oneCell']

end Go.Am
