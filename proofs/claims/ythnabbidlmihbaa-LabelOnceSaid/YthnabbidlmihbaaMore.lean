/- Small laws that the walks want beside the logic. -/
import Derived.Test.YthnabbidlmihbaaSep
namespace Go.Gp
open Go.RowKit
theorem cv_int {P : Program} {t u : TypeId} {k k' : IntKind} {n : Int} (hs : (P.underlying t).isSome = true) (hd : P.underlying u = some (.int k')) (hw : k'.wrap n = n) (w : World) : (convert t u (.int k n)).run P w = .ok (.int k' n) w := by
  have e : P.intKind u = k' := by simp [Program.intKind, hd]
  rw [run_convert_int w t u k n hs (by rw [e]; exact hd), e, hw]
theorem w32 {n : Int} (h : -2147483648 ≤ n ∧ n ≤ 2147483647) : IntKind.i32.wrap n = n := IntWalk.i32_in _ h
theorem w64 {n : Int} (h : -9223372036854775808 ≤ n ∧ n ≤ 9223372036854775807) : IntKind.i64.wrap n = n := IntWalk.i64_in _ h
theorem w8 {n : Int} (h : 0 ≤ n ∧ n ≤ 255) : IntKind.u8.wrap n = n := IntWalk.u8_in _ h
theorem wu32 {n : Int} (h : 0 ≤ n ∧ n ≤ 4294967295) : IntKind.u32.wrap n = n := by rw [IntKind.wrap_u32]; omega
end Go.Gp
