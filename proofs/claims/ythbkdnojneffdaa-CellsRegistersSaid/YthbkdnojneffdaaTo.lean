/- The types of arguments, opened. -/
import Derived.Test.YthbkdnojneffdaaTmOpen
import Derived.Test.YthbkdnojneffdaaProg
import Derived.KernelRfl
namespace Go.Proofs.Ythbkdnojneffdaa
open Go.Am

theorem op3 : OpC Try.prog 3 .int := opens_int (k := .i64) (by kernel_rfl)
theorem op4 : OpC Try.prog 4 .bool := opens_bool (by kernel_rfl)
theorem op9 : OpC Try.prog 9 .str := opens_string (by kernel_rfl)
theorem fl28 : (Try.prog.fieldsOf 28).toList = [{ name := "N", type := 3, offset := 0, embedded := false, tag := "", pkgPath := "", byteOffset := 0 }, { name := "Flag", type := 4, offset := 1, embedded := false, tag := "", pkgPath := "", byteOffset := 8 }, { name := "Text", type := 9, offset := 2, embedded := false, tag := "", pkgPath := "", byteOffset := 16 }, { name := "Ref", type := 3, offset := 3, embedded := false, tag := "", pkgPath := "", byteOffset := 32 }] := by kernel_rfl
theorem op28 : OpC Try.prog 28 .val := by
  refine Opens.imp (fun ys h => ?_) (opens_struct (n := 4) (by kernel_rfl) fl28 (by kernel_rfl) (by kernel_rfl) (.cons (n := 1) rfl (by kernel_rfl) op3 (.cons (n := 1) rfl (by kernel_rfl) op4 (.cons (n := 1) rfl (by kernel_rfl) op9 (.cons (n := 1) rfl (by kernel_rfl) op3 (.nil _))))))
  obtain ⟨_, _, rfl, ⟨a0, rfl⟩, _, _, rfl, ⟨a1, rfl⟩, _, _, rfl, ⟨a2, rfl⟩, _, _, rfl, ⟨a3, rfl⟩, rfl⟩ := h
  exact ⟨⟨a0, a1, a2, a3⟩, rfl⟩
theorem fl31 : (Try.prog.fieldsOf 31).toList = [{ name := "Id", type := 3, offset := 0, embedded := false, tag := "", pkgPath := "", byteOffset := 0 }, { name := "Field", type := 3, offset := 1, embedded := false, tag := "", pkgPath := "", byteOffset := 8 }, { name := "V", type := 28, offset := 2, embedded := false, tag := "", pkgPath := "", byteOffset := 16 }] := by kernel_rfl
theorem op31 : OpC Try.prog 31 .cell := by
  refine Opens.imp (fun ys h => ?_) (opens_struct (n := 6) (by kernel_rfl) fl31 (by kernel_rfl) (by kernel_rfl) (.cons (n := 1) rfl (by kernel_rfl) op3 (.cons (n := 1) rfl (by kernel_rfl) op3 (.cons (n := 4) rfl (by kernel_rfl) op28 (.nil _)))))
  obtain ⟨_, _, rfl, ⟨a0, rfl⟩, _, _, rfl, ⟨a1, rfl⟩, _, _, rfl, ⟨a2, rfl⟩, rfl⟩ := h
  exact ⟨⟨a0, a1, a2⟩, rfl⟩
theorem op22 : OpL Try.prog 22 .cell := opens_slice (by kernel_rfl) op31 (by kernel_rfl)
end Go.Proofs.Ythbkdnojneffdaa
