/- The abstract machine: a function as it is compiled; its contract. -/
import Derived.Test.YthbkdnojneffdaaAmWp
namespace Go.Am

structure AFn where
  body : ACode
  res : List RV
  n : Nat

def compFn (P : Program) (fn : Func) : Option AFn :=
  match fn.body with
  | some c => match compC P c, compRVs P fn.results.toList with
    | some a, some r => some ⟨a, r, fn.ntmps⟩
    | _, _ => none
  | none => none

/-- The frame at the entry. -/
def AFn.start (f : AFn) (args : List AV) : AS := ⟨args ++ List.replicate (f.n - args.length) (.v undef), []⟩

theorem contract_fn {P : Program} {f : FuncId} {fn : Func} {af : AFn} {args : List AV} {r : Res} (hf : P.funcs[f]? = some fn) (hc : compFn P fn = some af) (h : W P af.body (retQ af.res r) (af.start args)) : Contract P f args r := by
  unfold compFn at hc
  split at hc
  · rename_i c hb
    split at hc
    · rename_i a rs h1 h2
      cases hc
      exact contract_of hf hb h1 h2 h
    · cases hc
  · cases hc

end Go.Am
