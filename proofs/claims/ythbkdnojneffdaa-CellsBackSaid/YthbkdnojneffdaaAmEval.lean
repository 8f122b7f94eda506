/- The abstract machine: equations by which states are computed. -/
import Derived.Test.YthbkdnojneffdaaAmStep
namespace Go.Am

section
variable {P : Program} {ρ : Opd → AV} {st : Store}

theorem ev_t (fr : List AV) (st : Store) (n : Nat) : AS.ev ⟨fr, st⟩ (.t n) = fr.getD n (.v undef) := rfl
theorem ev_c (s : AS) (x : AV) : AS.ev s (.c x) = x := rfl
theorem getD_zero {α : Type} (a : α) (l : List α) (d : α) : List.getD (a :: l) 0 d = a := rfl
theorem getD_succ {α : Type} (a : α) (l : List α) (n : Nat) (d : α) : List.getD (a :: l) (n + 1) d = List.getD l n d := rfl
theorem set_zero {α : Type} (a b : α) (l : List α) : List.set (a :: l) 0 b = b :: l := rfl
theorem set_succ {α : Type} (a b : α) (l : List α) (n : Nat) : List.set (a :: l) (n + 1) b = a :: List.set l n b := rfl

theorem sidx_zero {α : Type} (a : α) (l : List α) : (a :: l)[0]? = some a := rfl
theorem sidx_succ {α : Type} (a : α) (l : List α) (n : Nat) : (a :: l)[n + 1]? = l[n]? := rfl

theorem bin_lss (t : TypeId) (a b : Int) : pureRun P (Go.binOp .lss t (.int .i64 a) (.int .i64 b)) = some (.bool (decide (a < b))) := rfl
theorem bin_leq (t : TypeId) (a b : Int) : pureRun P (Go.binOp .leq t (.int .i64 a) (.int .i64 b)) = some (.bool (decide (a ≤ b))) := rfl
theorem bin_gtr (t : TypeId) (a b : Int) : pureRun P (Go.binOp .gtr t (.int .i64 a) (.int .i64 b)) = some (.bool (decide (b < a))) := rfl
theorem bin_geq (t : TypeId) (a b : Int) : pureRun P (Go.binOp .geq t (.int .i64 a) (.int .i64 b)) = some (.bool (decide (b ≤ a))) := rfl
theorem bin_eql (t : TypeId) (a b : Int) : pureRun P (Go.binOp .eql t (.int .i64 a) (.int .i64 b)) = some (.bool (a == b)) := rfl
theorem bin_neq (t : TypeId) (a b : Int) : pureRun P (Go.binOp .neq t (.int .i64 a) (.int .i64 b)) = some (.bool (a != b)) := rfl
theorem bin_add (t : TypeId) (a b : Int) : pureRun P (Go.binOp .add t (.int .i64 a) (.int .i64 b)) = some (.int .i64 (IntKind.i64.wrap (a + b))) := rfl
theorem bin_sub (t : TypeId) (a b : Int) : pureRun P (Go.binOp .sub t (.int .i64 a) (.int .i64 b)) = some (.int .i64 (IntKind.i64.wrap (a - b))) := rfl
/-- '&' of ints. -/
def andI (a b : Int) : Int := IntKind.i64.wrap ((BitVec.ofInt 64 a &&& BitVec.ofInt 64 b).toNat : Int)
theorem bin_and (t : TypeId) (a b : Int) : pureRun P (Go.binOp .and t (.int .i64 a) (.int .i64 b)) = some (.int .i64 (andI a b)) := rfl
theorem bin_shr20 (t : TypeId) (a : Int) : pureRun P (Go.binOp .shr t (.int .i64 a) (.int .u64 20)) = some (.int .i64 (a.fdiv 1048576)) := rfl
theorem bin_mul (t : TypeId) (a b : Int) : pureRun P (Go.binOp .mul t (.int .i64 a) (.int .i64 b)) = some (.int .i64 (IntKind.i64.wrap (a * b))) := rfl
theorem bin_rem20 (t : TypeId) (a : Int) : pureRun P (Go.binOp .rem t (.int .i64 a) (.int .i64 1048576)) = some (.int .i64 (a.tmod 1048576)) := rfl

theorem andI_mask (a : Int) (h0 : 0 ≤ a) (h1 : a < 9223372036854775808) : andI a 1048575 = a % 1048576 := by
  obtain ⟨n, rfl⟩ := Int.eq_ofNat_of_zero_le h0
  have hn : n < 9223372036854775808 := by omega
  unfold andI
  have e1 : (BitVec.ofInt 64 (n : Int)).toNat = n := by
    rw [BitVec.ofInt_natCast, BitVec.toNat_ofNat]; exact Nat.mod_eq_of_lt (by omega)
  have e2 : (BitVec.ofInt 64 (1048575 : Int)).toNat = 1048575 := by decide
  rw [BitVec.toNat_and, e1, e2, show (1048575 : Nat) = 2 ^ 20 - 1 from rfl, Nat.and_two_pow_sub_one_eq_mod]
  have : n % 2 ^ 20 < 1048576 := Nat.mod_lt _ (by decide)
  rw [IntKind.wrap_i64]
  omega

theorem wrap_id (a : Int) (h0 : -9223372036854775808 ≤ a) (h1 : a < 9223372036854775808) : IntKind.i64.wrap a = a := by
  rw [IntKind.wrap_i64]; omega

theorem un_not (a : Bool) : pureRun P (Op.unary .not (.bool a)) = some (.bool (!a)) := rfl

end
end Go.Am
