/- The abstract machine: steps for proofs over compiled functions. -/
import Derived.Test.YthbkdnojneffdaaAmFn
namespace Go.Am

/-- A region, and what follows. -/
def regW (P : Program) (ops : List AOper) (K : AS → Prop) (s : AS) : Prop := ∃ s', opsR P ops s s' ∧ K s'

section
variable {P : Program} {Q : Exit → AS → Prop} {K : AS → Prop} {s : AS} {fr : List AV} {st st' : Store}

theorem W_regW {ops : List AOper} (h : regW P ops (Q .normal) s) : W P (.reg false ops) Q s := let ⟨_, h1, h2⟩ := h; W_reg h1 h2
theorem W_drawW {ops : List AOper} (hm : P.follows .mixedOrders = true) (hd : drawOk ops = true) (h : regW P ops (Q .normal) s) : W P (.reg true ops) Q s := let ⟨_, h1, h2⟩ := h; W_draw hm hd h1 h2

theorem regW_nil (h : K s) : regW P [] K s := ⟨s, rfl, h⟩

theorem regW_cons {o : AOper} {r : List AOper} {s1 : AS} (h : operR P o s s1) (hk : regW P r K s1) : regW P (o :: r) K s := let ⟨s', h1, h2⟩ := hk; ⟨s', ⟨s1, h, h1⟩, h2⟩

/-- An operation without a guard, no call. -/
theorem regW_op {d : Nat} {op : AOp} {af : List Nat} {r : List AOper} {x : AV} {fr1 : List AV} (hs : semF P op (AS.ev ⟨fr, st⟩) st = some (x, st')) (h1 : fr.set d x = fr1) (hk : regW P r K ⟨fr1, st'⟩) :
    regW P (⟨some d, op, none, af⟩ :: r) K ⟨fr, st⟩ := by
  subst h1
  refine regW_cons ⟨x, st', .inl ⟨rfl, ?_⟩, rfl⟩ hk
  cases op with
  | call f xs => simp [semF] at hs
  | _ => exact hs
theorem regW_opN {op : AOp} {af : List Nat} {r : List AOper} {x : AV} (hs : semF P op (AS.ev ⟨fr, st⟩) st = some (x, st')) (hk : regW P r K ⟨fr, st'⟩) :
    regW P (⟨none, op, none, af⟩ :: r) K ⟨fr, st⟩ := by
  refine regW_cons ⟨x, st', .inl ⟨rfl, ?_⟩, rfl⟩ hk
  cases op with
  | call f xs => simp [semF] at hs
  | _ => exact hs

/-- An operation with a guard that is open, no call. -/
theorem regW_opG {d : Nat} {op : AOp} {g : Nat} {want b : Bool} {af : List Nat} {r : List AOper} {x : AV} {fr1 : List AV} (hg : fr.getD g (.v undef) = .v (.bool b)) (hb : b = want) (hs : semF P op (AS.ev ⟨fr, st⟩) st = some (x, st')) (h1 : fr.set d x = fr1) (hk : regW P r K ⟨fr1, st'⟩) :
    regW P (⟨some d, op, some (g, want), af⟩ :: r) K ⟨fr, st⟩ := by
  subst h1 hb
  refine regW_cons ⟨x, st', .inl ⟨by simp only [wantedA, hg]; simp, ?_⟩, rfl⟩ hk
  cases op with
  | call f xs => simp [semF] at hs
  | _ => exact hs

/-- An operation with a guard that is shut. -/
theorem regW_shut {d : Nat} {op : AOp} {g : Nat} {want b : Bool} {af : List Nat} {r : List AOper} {fr1 : List AV} (hg : fr.getD g (.v undef) = .v (.bool b)) (hb : b = !want) (h1 : fr.set d (.v undef) = fr1) (hk : regW P r K ⟨fr1, st⟩) :
    regW P (⟨some d, op, some (g, want), af⟩ :: r) K ⟨fr, st⟩ := by
  subst h1 hb
  refine regW_cons ⟨.v undef, st, .inr ⟨by simp only [wantedA, hg]; cases want <;> rfl, rfl, rfl⟩, rfl⟩ hk
theorem regW_shut' {d : Nat} {op : AOp} {g : Nat} {want : Bool} {af : List Nat} {r : List AOper} {fr1 : List AV} (hg : fr.getD g (.v undef) = .v undef) (h1 : fr.set d (.v undef) = fr1) (hk : regW P r K ⟨fr1, st⟩) :
    regW P (⟨some d, op, some (g, want), af⟩ :: r) K ⟨fr, st⟩ := by
  subst h1
  refine regW_cons ⟨.v undef, st, .inr ⟨by simp only [wantedA, hg]; simp [undef], rfl, rfl⟩, rfl⟩ hk

/-- A call. -/
theorem regW_call {d : Nat} {f : FuncId} {xs : List Opd} {af : List Nat} {r : List AOper} {x : AV} {fr1 : List AV} (hs : CallR P f (xs.map (AS.ev ⟨fr, st⟩)) st x st') (h1 : fr.set d x = fr1) (hk : regW P r K ⟨fr1, st'⟩) :
    regW P (⟨some d, .call f xs, none, af⟩ :: r) K ⟨fr, st⟩ := by
  subst h1
  exact regW_cons ⟨x, st', .inl ⟨rfl, hs⟩, rfl⟩ hk
theorem regW_callG {d : Nat} {f : FuncId} {xs : List Opd} {g : Nat} {want b : Bool} {af : List Nat} {r : List AOper} {x : AV} {fr1 : List AV} (hg : fr.getD g (.v undef) = .v (.bool b)) (hb : b = want) (hs : CallR P f (xs.map (AS.ev ⟨fr, st⟩)) st x st') (h1 : fr.set d x = fr1) (hk : regW P r K ⟨fr1, st'⟩) :
    regW P (⟨some d, .call f xs, some (g, want), af⟩ :: r) K ⟨fr, st⟩ := by
  subst h1 hb
  exact regW_cons ⟨x, st', .inl ⟨by simp only [wantedA, hg]; simp, hs⟩, rfl⟩ hk

end
/-! ### What follows, as a list -/

inductive Kf where
  | code (c : ACode)
  | blk (id : Nat)
  | inv (N : AS → Prop)

def Kq (P : Program) (R : AS → Prop) : List Kf → Exit → AS → Prop
  | [] => fun e s => match e with
    | .normal | .ret => R s
    | _ => False
  | .code c :: K => thenQ (W P c (Kq P R K)) (Kq P R K)
  | .blk id :: K => blockQ id (Kq P R K)
  | .inv N :: K => thenQ N (Kq P R K)

/-- The code, then what follows. -/
def G (P : Program) (R : AS → Prop) (c : ACode) (K : List Kf) (s : AS) : Prop := W P c (Kq P R K) s
/-- What follows, at the end of a piece of code. -/
def Nx (P : Program) (R : AS → Prop) (K : List Kf) (s : AS) : Prop := Kq P R K .normal s
/-- What follows, at an exit. -/
def Ex (P : Program) (R : AS → Prop) (id : Nat) (K : List Kf) (s : AS) : Prop := Kq P R K (.exit id) s

section
variable {P : Program} {R : AS → Prop} {K : List Kf} {s : AS}

theorem Nx_nil (h : R s) : Nx P R [] s := h
theorem Nx_code {c : ACode} (h : G P R c K s) : Nx P R (.code c :: K) s := h
theorem Nx_blk {id : Nat} (h : Nx P R K s) : Nx P R (.blk id :: K) s := h
theorem Nx_inv {N : AS → Prop} (h : N s) : Nx P R (.inv N :: K) s := h
theorem Ex_code {c : ACode} {id : Nat} (h : Ex P R id K s) : Ex P R id (.code c :: K) s := h
theorem Ex_inv {N : AS → Prop} {id : Nat} (h : Ex P R id K s) : Ex P R id (.inv N :: K) s := h
theorem Ex_blk {id : Nat} (h : Nx P R K s) : Ex P R id (.blk id :: K) s := by
  show blockQ id (Kq P R K) (.exit id) s
  simp only [blockQ, if_true]
  exact h
theorem Ex_far {id id' : Nat} (hne : id ≠ id') (h : Ex P R id K s) : Ex P R id (.blk id' :: K) s := by
  show blockQ id' (Kq P R K) (.exit id) s
  simp only [blockQ, if_neg hne]
  exact h
theorem Kq_ret (h : R s) : ∀ K : List Kf, Kq P R K .ret s
  | [] => h
  | .code _ :: K => Kq_ret h K
  | .blk _ :: K => Kq_ret h K
  | .inv _ :: K => Kq_ret h K

theorem G_skip (h : Nx P R K s) : G P R .skip K s := W_skip h
theorem G_ret (h : R s) : G P R .ret K s := W_ret (Kq_ret h K)
theorem G_exit {id : Nat} (h : Ex P R id K s) : G P R (.exit id) K s := W_exit h
theorem G_seq {a b : ACode} (h : G P R a (.code b :: K) s) : G P R (.seq a b) K s := W_seq h
theorem G_block {id : Nat} {a : ACode} (h : G P R a (.blk id :: K) s) : G P R (.block id a) K s := W_block h
theorem G_reg {ops : List AOper} (h : regW P ops (Nx P R K) s) : G P R (.reg false ops) K s := W_regW h
theorem G_draw {ops : List AOper} (hm : P.follows .mixedOrders = true) (hd : drawOk ops = true) (h : regW P ops (Nx P R K) s) : G P R (.reg true ops) K s := W_drawW hm hd h
theorem G_cond {x : Opd} {a b : ACode} {t : Bool} (hx : s.ev x = .v (.bool t)) (h1 : t = true → G P R a K s) (h2 : t = false → G P R b K s) : G P R (.cond x a b) K s := W_cond hx h1 h2
theorem G_true {x : Opd} {a b : ACode} (hx : s.ev x = .v (.bool true)) (h1 : G P R a K s) : G P R (.cond x a b) K s := W_cond hx (fun _ => h1) (fun h => by cases h)
theorem G_false {x : Opd} {a b : ACode} (hx : s.ev x = .v (.bool false)) (h1 : G P R b K s) : G P R (.cond x a b) K s := W_cond hx (fun h => by cases h) (fun _ => h1)
theorem G_loop {T : Type} {a : ACode} (I : T → AS → Prop) (μ : T → Nat) (g : T) (h0 : I g s) (h : ∀ g s, I g s → G P R a (.inv (fun s' => ∃ g', I g' s' ∧ μ g' < μ g) :: K) s) : G P R (.loop a) K s := W_loop I μ g h0 h
theorem G_weak {c : ACode} {s' : AS} (hw : ∀ I0 w0 a w, Good I0 w0 s a w → Good I0 w0 s' a w) (h : G P R c K s') : G P R c K s := W_weak hw h

end

/-- The contract of a function. -/
theorem contract_g {P : Program} {f : FuncId} {fn : Func} {af : AFn} {args : List AV} {r : Res} {fr : List AV} (hf : P.funcs[f]? = some fn) (hc : compFn P fn = some af) (hfr : af.start args = ⟨fr, []⟩)
    (h : G P (fun s => RetOk af.res s r) af.body [] ⟨fr, []⟩) : Contract P f args r := by
  refine contract_fn hf hc ?_
  rw [hfr]
  refine W_mono h fun e s hs => ?_
  cases e <;> first | exact hs | exact hs.elim

end Go.Am
