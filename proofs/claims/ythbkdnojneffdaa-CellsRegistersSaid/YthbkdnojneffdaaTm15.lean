/- The typed machine: environments out of lists. -/
import Derived.Test.YthbkdnojneffdaaTm14
namespace Go.Am

def look {α : Type} : List (Nat × α) → Nat → Option α
  | [], _ => none
  | (n, x) :: r, k => cond (Nat.beq n k) (some x) (look r k)

def envOf (fns : List (FuncId × FSpec)) (cds : List (TypeId × Cd)) (eqs : List (TypeId × List Kd)) : Env := ⟨look fns, look cds, look eqs⟩

def plainP : PT → Bool
  | .fn _ => false
  | _ => true
def plainB : RT → Bool
  | .one p => plainP p
  | .fresh _ _ => true
  | .tup ps => ps.all plainP

inductive EnvL (P : Program) : List (FuncId × FSpec) → Prop
  | nil : EnvL P []
  | cons {f : FuncId} {sp : FSpec} {r : List (FuncId × FSpec)} (h : SpecOk P f sp) (hp : plainB sp.rt = true) (hr : EnvL P r) : EnvL P ((f, sp) :: r)
inductive EqL (P : Program) : List (TypeId × List Kd) → Prop
  | nil : EqL P []
  | cons {t : TypeId} {ks : List Kd} {r : List (TypeId × List Kd)} (h : EqOk P t ks) (hr : EqL P r) : EqL P ((t, ks) :: r)

theorem look_mem {α : Type} : ∀ {l : List (Nat × α)} {k : Nat} {x : α}, look l k = some x → (k, x) ∈ l
  | [], k, x, h => by simp [look] at h
  | (n, y) :: r, k, x, h => by
    simp only [look] at h
    cases hb : Nat.beq n k with
    | true =>
      rw [hb] at h
      have := Nat.eq_of_beq_eq_true hb
      subst this
      cases h
      simp
    | false => rw [hb] at h; exact List.mem_cons_of_mem _ (look_mem h)

theorem EnvL.mem {P : Program} : ∀ {l : List (FuncId × FSpec)}, EnvL P l → ∀ {f : FuncId} {sp : FSpec}, (f, sp) ∈ l → SpecOk P f sp ∧ plainB sp.rt = true
  | _, .nil, _, _, h => by simp at h
  | _, .cons h hp hr, f, sp, hm => by
    rcases List.mem_cons.1 hm with e | hm
    · cases e; exact ⟨h, hp⟩
    · exact EnvL.mem hr hm
theorem EqL.mem {P : Program} : ∀ {l : List (TypeId × List Kd)}, EqL P l → ∀ {t : TypeId} {ks : List Kd}, (t, ks) ∈ l → EqOk P t ks
  | _, .nil, _, _, h => by simp at h
  | _, .cons h hr, f, sp, hm => by
    rcases List.mem_cons.1 hm with e | hm
    · cases e; exact h
    · exact EqL.mem hr hm

theorem envOf_ok {P : Program} {fns : List (FuncId × FSpec)} {cds : List (TypeId × Cd)} {eqs : List (TypeId × List Kd)} (h : EnvL P fns) (he : EqL P eqs) : EnvOk P (envOf fns cds eqs) :=
  ⟨fun _ _ hf => (h.mem (look_mem hf)).1, fun _ _ ht => he.mem (look_mem ht)⟩
theorem plain_of {sp : FSpec} (h : plainB sp.rt = true) : sp.plain := by
  refine ⟨fun p hp f e => ?_, fun ps hp p hm f e => ?_⟩
  · rw [hp, e] at h; simp [plainB, plainP] at h
  · rw [hp] at h
    simp only [plainB, List.all_eq_true] at h
    have := h p hm
    rw [e] at this
    simp [plainP] at this
theorem envOf_plain {P : Program} {fns : List (FuncId × FSpec)} {cds : List (TypeId × Cd)} {eqs : List (TypeId × List Kd)} (h : EnvL P fns) : (envOf fns cds eqs).plain := fun _ _ hf => plain_of (h.mem (look_mem hf)).2

/-- A function's specification, by its run. -/
theorem specOk_of {P : Program} {fns : List (FuncId × FSpec)} {cds : List (TypeId × Cd)} {eqs : List (TypeId × List Kd)} {f : FuncId} {fn : Func} {g : TFn} {sp : FSpec} (hf : P.funcs[f]? = some fn) (hc : compFn P fn = some ⟨g.body.erase, g.res, g.n⟩) (hd : g.body.draws = true) (hm : P.follows .mixedOrders = true) (h : EnvL P fns) (he : EqL P eqs)
    (hr : ∀ a, sp.pre a = true → g.run (fun {_ _} b t => iter b t) (envOf fns cds eqs) sp.ps sp.rt a = some (sp.fn a)) : SpecOk P f sp := fun a ha =>
  TFn.contract iter_ok (envOf_ok h he) (envOf_plain h) hm hf hc hd (hr a ha)

/-! ### For plain proofs -/
theorem getI_nat {α : Type} (l : List α) (k : Nat) : getI l (k : Int) = l[k]? := by simp [getI]
theorem opt?_some {α R : Type} (x : α) (f : R) (k : α → R) : opt? (some x) f k = k x := rfl
theorem opt?_none {α R : Type} (f : R) (k : α → R) : opt? none f k = f := rfl
theorem wrap64 (a : Int) (h0 : -9223372036854775808 ≤ a) (h1 : a < 9223372036854775808) : IntKind.i64.wrap a = a := by
  rw [IntKind.wrap_i64]; omega

end Go.Am
