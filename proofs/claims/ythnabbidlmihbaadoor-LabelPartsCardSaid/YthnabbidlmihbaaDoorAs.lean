/- errors.As at a target of the number's type, and fail.Code: their contracts. -/
import Derived.Test.YthnabbidlmihbaaDoorErr
import Derived.Test.YthnabbidlmihbaaDoorExt
namespace Go.Proofs.YthnabbidlmihbaaDoor
open Go.RowKit Go.Gp Go.Extern.Stop Go.Stop Go.Extern

abbrev hdl (t : Nat) : Value := .pointer (some ⟨2, t, none⟩)
/-- What the variable errors.errorType holds. -/
abbrev errT : Value := .iface 70 (.agg #[hdl 27])
abbrev PE : Nat := 51
abbrev EE : Nat := 31
abbrev vPE (a : Nat) : Value := .agg #[hdl PE, .pointer (some ⟨a, 0, none⟩), .int .u64 150]
abbrev vEa (a : Nat) : Value := .agg #[hdl EE, .pointer (some ⟨a, 0, none⟩), .int .u64 386]
abbrev vE (a : Nat) : Value := .agg #[hdl EE, .pointer (some ⟨a, 0, none⟩), .int .u64 130]

theorem x_valueOfP (t : Addr) (w : World) : (callFunc 38 #[.iface PE (.pointer (some t))]).run Tryd.prog w = .ok (.value (vPE w.heap.size)) (w.alloc (.cells #[.pointer (some t)] PE)) := by kernel_rfl
theorem x_valueOfE (n : Int) (w : World) : (callFunc 38 #[.iface EE (.int .i64 n)]).run Tryd.prog w = .ok (.value (vE w.heap.size)) (w.alloc (.cells #[.int .i64 n] EE)) := by kernel_rfl
theorem rlm (z : Sem Value) (f : TypeId → Addr → Nat → Nat → Sem Value) (v : Value) :
    ReflectliteValue.method z f #[v] = (do match ← ReflectliteValue.parts v with | none => z | some (t, a, fl) => f t a fl (fl % 32)) := rfl
theorem rls (v x : Value) : ReflectliteValue.set #[v, x] = (do
    let (some (dst, a, fl), some (src, b, _)) := (← ReflectliteValue.parts v, ← ReflectliteValue.parts x)
      | unsupported (.noEntry "extern/(internal/reflectlite.Value).Set.zeroValue")
    if fl / ReflectliteValue.flagAddr % 2 == 0 then unsupported (.noEntry "extern/(internal/reflectlite.Value).Set.unaddressable")
    let val ← loadVar src b
    if ← Rtype.directlyAssignable dst src then storeVar dst a val
    else if ← Rtype.implements dst src then
      if (← Rtype.kind src) == 20 then
        match val with
        | .nilIface => unsupported (.noEntry "extern/reflectlite: a nil value of one interface type handed on as a value of another")
        | _ => storeVar dst a val
      else storeVar dst a (.iface src val)
    else panicString ("reflectlite.Set: value of type " ++ (← Rtype.spelt src) ++ " is not assignable to type " ++ (← Rtype.spelt dst))
    pure (.tuple #[])) := rfl
theorem x_partsP (a : Nat) (w : World) : (ReflectliteValue.parts (vPE a)).run Tryd.prog w = .ok (some (PE, ⟨a, 0, none⟩, 150)) w := by kernel_rfl
theorem x_partsEa (a : Nat) (w : World) : (ReflectliteValue.parts (vEa a)).run Tryd.prog w = .ok (some (EE, ⟨a, 0, none⟩, 386)) w := by kernel_rfl
theorem x_partsE (a : Nat) (w : World) : (ReflectliteValue.parts (vE a)).run Tryd.prog w = .ok (some (EE, ⟨a, 0, none⟩, 130)) w := by kernel_rfl
theorem x_elemOf (w : World) : (Rtype.elem? PE).run Tryd.prog w = .ok (some EE) w := by kernel_rfl
theorem x_mk (p : Addr) (w : World) : (ReflectliteValue.mk EE p ReflectliteValue.flagAddr).run Tryd.prog w = .ok (.agg #[hdl EE, .pointer (some p), .int .u64 386]) w := by kernel_rfl
theorem x_direct (w : World) : (Rtype.directlyAssignable EE EE).run Tryd.prog w = .ok true w := by kernel_rfl
theorem x_isNil (a t : Nat) (w : World) (ha : w.cell? ⟨a, 0, none⟩ = some (.pointer (some ⟨t, 0, none⟩))) :
    (callFunc 40 #[vPE a]).run Tryd.prog w = .ok (.value (.bool false)) w := by
  rw [run_callFunc_extern (e := ReflectliteValue.method (ReflectliteValue.valueError "reflectlite.Value.IsNil" 0) ReflectliteValue.isNil) Tryd.func40 (by kernel_rfl) (by kernel_rfl) (by kernel_rfl) (by kernel_rfl), rlm]
  simp only [Sem.run_bind, x_partsP, Result.andThen]
  simp [ReflectliteValue.isNil, loadVar, isAgg, underlying, Tryd.underlying51, ha, Result.andThen]
theorem x_elem (a t : Nat) (w : World) (ha : w.cell? ⟨a, 0, none⟩ = some (.pointer (some ⟨t, 0, none⟩))) :
    (callFunc 62 #[vPE a]).run Tryd.prog w = .ok (.value (vEa t)) w := by
  rw [run_callFunc_extern (e := ReflectliteValue.method (ReflectliteValue.valueError "reflectlite.Value.Elem" 0) ReflectliteValue.elem) Tryd.func62 (by kernel_rfl) (by kernel_rfl) (by kernel_rfl) (by kernel_rfl), rlm]
  simp only [Sem.run_bind, x_partsP, Result.andThen]
  simp [ReflectliteValue.elem, loadVar, isAgg, underlying, Tryd.underlying51, ha, Result.andThen, x_elemOf, x_mk]
theorem x_set (ta b : Nat) (n : Int) (old : Value) (w : World) (hb : w.cell? ⟨b, 0, none⟩ = some (.int .i64 n)) (ht : w.cell? ⟨ta, 0, none⟩ = some old) (hf : w.frozen? ⟨ta, 0, none⟩ = false) :
    (callFunc 63 #[vEa ta, vE b]).run Tryd.prog w = .ok (.value (.tuple #[])) (w.setCell ⟨ta, 0, none⟩ (.int .i64 n)) := by
  rw [run_callFunc_extern (e := ReflectliteValue.set) Tryd.func63 (by kernel_rfl) (by kernel_rfl) (by kernel_rfl) (by kernel_rfl), rls]
  simp only [Sem.run_bind, x_partsEa, x_partsE, Result.andThen]
  simp [ReflectliteValue.flagAddr, loadVar, isAgg, underlying, Tryd.underlying31, hb, Result.andThen, x_direct, storeVar, Value.cells, storeCells, Addr.add]
  rw [run_store Tryd.prog w ⟨ta, 0, none⟩ _ _ (by rfl)]
  simp [ht, hf]
theorem noAsF (v : Value) (xT : TypeId) (w : World) : (Instr.typeAssert (.iface 57 v) xT 109 true).run Tryd.prog w = .ok (.tuple #[.nilIface, .bool false]) w := run_typeAssert_lacksB Tryd.underlying109 (by kernel_rfl) (by kernel_rfl) v xT w
end Go.Proofs.YthnabbidlmihbaaDoor
