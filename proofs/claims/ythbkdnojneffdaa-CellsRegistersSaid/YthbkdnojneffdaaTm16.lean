/- For plain proofs about loops. -/
import Derived.Test.YthbkdnojneffdaaTm15
namespace Go.Am

/-- A loop whose states are S g: how it ends. -/
theorem iter_ghQ {τ o γ : Type} {b : τ → Stp τ o} (S : γ → τ) (I : γ → Prop) (μ : γ → Nat) (Q : o → Prop) (g0 : γ) (h0 : I g0)
    (hb : ∀ g, I g → (∃ g', b (S g) = .next (S g') ∧ I g' ∧ μ g' < μ g) ∨ ∃ x, b (S g) = .done x ∧ Q x) : ∃ x, iter b (S g0) = some x ∧ Q x := by
  have key : ∀ n g, μ g = n → I g → ∃ m x, iterN b m (S g) = some x ∧ Q x := by
    intro n
    induction n using Nat.strongRecOn with
    | _ n ih =>
      intro g hn hI
      rcases hb g hI with ⟨g', e, hI', hlt⟩ | ⟨x, e, hq⟩
      · obtain ⟨m, x, h1, h2⟩ := ih (μ g') (hn ▸ hlt) g' rfl hI'
        exact ⟨m + 1, x, by rw [iterN, e]; exact h1, h2⟩
      · exact ⟨1, x, by rw [iterN, e], hq⟩
  obtain ⟨m, x, h1, h2⟩ := key _ g0 rfl h0
  exact ⟨x, iter_of h1, h2⟩
/-- What it comes to. -/
theorem iter_gh {τ o ρ γ : Type} {b : τ → Stp τ o} {post : o → Option ρ} {r : ρ} (S : γ → τ) (I : γ → Prop) (μ : γ → Nat) (g0 : γ) (h0 : I g0)
    (hb : ∀ g, I g → (∃ g', b (S g) = .next (S g') ∧ I g' ∧ μ g' < μ g) ∨ ∃ x, b (S g) = .done x ∧ post x = some r) : opt? (iter b (S g0)) none post = some r := by
  obtain ⟨x, h1, h2⟩ := iter_ghQ S I μ (fun x => post x = some r) g0 h0 hb
  rw [h1]; exact h2
/-- How it ends, exactly. -/
theorem iter_to {τ o γ : Type} {b : τ → Stp τ o} {r : o} (S : γ → τ) (I : γ → Prop) (μ : γ → Nat) (g0 : γ) (h0 : I g0)
    (hb : ∀ g, I g → (∃ g', b (S g) = .next (S g') ∧ I g' ∧ μ g' < μ g) ∨ b (S g) = .done r) : iter b (S g0) = some r := by
  obtain ⟨x, h1, h2⟩ := iter_ghQ S I μ (fun x => x = r) g0 h0 (fun g hI => (hb g hI).imp id fun h => ⟨r, h, rfl⟩)
  rw [h1, h2]

/-- Where a round goes. -/
def Goes {τ o : Type} (N : τ → Prop) (Q : o → Prop) : Stp τ o → Prop
  | .next t => N t
  | .done x => Q x
  | .fail => False
theorem goes_next {τ o : Type} {N : τ → Prop} {Q : o → Prop} {t : τ} (h : N t) : Goes N Q (.next t) := h
theorem goes_done {τ o : Type} {N : τ → Prop} {Q : o → Prop} {x : o} (h : Q x) : Goes N Q (.done x) := h
theorem goes_cond {τ o : Type} {N : τ → Prop} {Q : o → Prop} {b : Bool} {x y : Stp τ o} (h1 : b = true → Goes N Q x) (h2 : b = false → Goes N Q y) : Goes N Q (cond b x y) := by
  cases b with
  | true => exact h1 rfl
  | false => exact h2 rfl
theorem goes_get {τ o α : Type} {N : τ → Prop} {Q : o → Prop} {l : List α} {n : Int} {k : α → Stp τ o} (h : 0 ≤ n ∧ n.toNat < l.length) (h2 : ∀ x, l[n.toNat]? = some x → Goes N Q (k x)) : Goes N Q (opt? (getI l n) .fail k) := by
  have e : getI l n = some (l[n.toNat]'h.2) := by simp [getI, h.1, List.getElem?_eq_getElem h.2]
  rw [e]
  exact h2 _ (List.getElem?_eq_getElem h.2)
theorem goes_opt {τ o α : Type} {N : τ → Prop} {Q : o → Prop} {q : Option α} {x : α} {k : α → Stp τ o} (h : q = some x) (h2 : Goes N Q (k x)) : Goes N Q (opt? q .fail k) := by
  rw [h]; exact h2
/-- A loop whose states are S g. -/
theorem iter_go {τ o γ : Type} {b : τ → Stp τ o} (S : γ → τ) (I : γ → Prop) (μ : γ → Nat) (Q : o → Prop) (g0 : γ) (h0 : I g0) (hb : ∀ g, I g → Goes (fun t => ∃ g', t = S g' ∧ I g' ∧ μ g' < μ g) Q (b (S g))) : ∃ x, iter b (S g0) = some x ∧ Q x :=
  iter_ghQ S I μ Q g0 h0 fun g hI => by
    have := hb g hI
    cases hx : b (S g) with
    | next t => rw [hx] at this; obtain ⟨g', e, h1, h2⟩ := this; exact .inl ⟨g', by rw [e], h1, h2⟩
    | done x => rw [hx] at this; exact .inr ⟨x, rfl, this⟩
    | fail => rw [hx] at this; exact this.elim
/-- What follows a loop. -/
theorem opt_iter {τ o R : Type} {b : τ → Stp τ o} {t : τ} {f : R} {k : o → R} {P : R → Prop} {Q : o → Prop} (h : ∃ x, iter b t = some x ∧ Q x) (hk : ∀ x, Q x → P (k x)) : P (opt? (iter b t) f k) := by
  obtain ⟨x, h1, h2⟩ := h
  rw [h1]; exact hk x h2
/-- What a function returns. -/
theorem run_go {τ o γ ρ : Type} {b : τ → Stp τ o} {post : o → Option ρ} {r : ρ} (S : γ → τ) (I : γ → Prop) (μ : γ → Nat) (g0 : γ) (h0 : I g0) (hb : ∀ g, I g → Goes (fun t => ∃ g', t = S g' ∧ I g' ∧ μ g' < μ g) (fun x => post x = some r) (b (S g))) : opt? (iter b (S g0)) none post = some r :=
  opt_iter (P := fun x => x = some r) (iter_go S I μ (fun x => post x = some r) g0 h0 hb) fun _ h => h

theorem wsucc (k : Nat) (h : k < 9223372036854775807) : IntKind.i64.wrap ((k : Int) + 1) = ((k + 1 : Nat) : Int) := by
  rw [wrap64 _ (by omega) (by omega)]; rfl
theorem wpred (k : Nat) (h0 : 0 < k) (h : k < 9223372036854775807) : IntKind.i64.wrap ((k : Int) - 1) = ((k - 1 : Nat) : Int) := by
  rw [wrap64 _ (by omega) (by omega)]; omega
theorem getI_at {α : Type} {l : List α} {k : Nat} (h : k < l.length) : getI l (k : Int) = some l[k] := by rw [getI_nat, List.getElem?_eq_getElem h]
theorem getN_at {α : Type} {l : List α} {k : Nat} (h : k < l.length) : getN l (k : Int).toNat = some l[k] := by simp [getN, List.getElem?_eq_getElem h]
theorem getI_zero {α : Type} (a : α) (l : List α) : getI (a :: l) 0 = some a := rfl
theorem drop_cons {α : Type} {l : List α} {k : Nat} (h : k < l.length) : l.drop k = l[k] :: l.drop (k + 1) := List.drop_eq_getElem_cons h
theorem dec_lt_true {a b : Int} (h : a < b) : decide (a < b) = true := by simp [h]
theorem dec_lt_false {a b : Int} (h : b ≤ a) : decide (a < b) = false := by simp; omega

end Go.Am
