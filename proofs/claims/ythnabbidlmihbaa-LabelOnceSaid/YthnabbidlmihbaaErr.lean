/- Errors: what wraps what, errors.Is: the contracts of fail.Wrap, (*Fail).Unwrap and errors.Is. -/
import Derived.Test.YthnabbidlmihbaaRows
import Derived.Test.YthnabbidlmihbaaSep
import Derived.Stop.Asserts
namespace Go.Proofs.Ythnabbidlmihbaa
open Go.RowKit Go.Gp Go.Extern.Stop Go.Stop

theorem noIsN (v : Value) (xT : TypeId) (w : World) : (Instr.typeAssert (.iface 31 v) xT 83 true).run Try.prog w = .ok (.tuple #[.nilIface, .bool false]) w := run_typeAssert_lacksB Try.underlying83 (by kernel_rfl) (by kernel_rfl) v xT w
theorem noUnN (v : Value) (xT : TypeId) (w : World) : (Instr.typeAssert (.iface 31 v) xT 86 true).run Try.prog w = .ok (.tuple #[.nilIface, .bool false]) w := run_typeAssert_lacksB Try.underlying86 (by kernel_rfl) (by kernel_rfl) v xT w
theorem noUnsN (v : Value) (xT : TypeId) (w : World) : (Instr.typeAssert (.iface 31 v) xT 87 true).run Try.prog w = .ok (.tuple #[.nilIface, .bool false]) w := run_typeAssert_lacksB Try.underlying87 (by kernel_rfl) (by kernel_rfl) v xT w
theorem noIsF (v : Value) (xT : TypeId) (w : World) : (Instr.typeAssert (.iface 54 v) xT 83 true).run Try.prog w = .ok (.tuple #[.nilIface, .bool false]) w := run_typeAssert_lacksB Try.underlying83 (by kernel_rfl) (by kernel_rfl) v xT w
theorem hasUnF (v : Value) (xT : TypeId) (w : World) : (Instr.typeAssert (.iface 54 v) xT 86 true).run Try.prog w = .ok (.tuple #[.iface 54 v, .bool true]) w := run_typeAssert_hasB Try.underlying86 (by kernel_rfl) v xT w

/-- An error: the blocks of the calls that wrap it, the outermost one first, and the number innermost. -/
def ecv : List (Nat × ByteArray) → Int → Value
  | [], n => .iface 31 (.int .i64 n)
  | (b, _) :: _, _ => .iface 54 (.pointer (some ⟨b, 0, none⟩))
def ecm : List (Nat × ByteArray) → Int → List Res
  | [], _ => []
  | (b, s) :: r, n => .blk b [.string s, ecv r n] 56 :: ecm r n
/-- The chain can be read. -/
def EcR (w0 : World) (m : List Res) : List (Nat × ByteArray) → Int → Prop
  | [], _ => True
  | (b, s) :: r, n => Rd w0 m (some ⟨b, 0, none⟩) [.string s, ecv r n] ∧ EcR w0 m r n

theorem EcR.app {w0 : World} {m0 : List Res} {L : List (Nat × ByteArray)} {n : Int} (h : EcR w0 m0 L n) (m : List Res) : EcR w0 (m ++ m0) L n := by
  induction L with
  | nil => trivial
  | cons p r ih => exact ⟨h.1.app m, ih h.2⟩

theorem wrap_spec (s : ByteArray) (L : List (Nat × ByteArray)) (n : Int) (w0 : World) (m0 : List Res) :
    Ct (α := Nat) Try.prog 10 [.string s, ecv L n] w0 [] m0 (fun _ => True) (fun b => ecv ((b, s) :: L) n) (fun b => [.blk b [.string s, ecv L n] 56]) := by
  refine Ct.of Try.func10 rfl (by kernel_rfl) rfl ?_
  obtain ⟨T, v, he⟩ : ∃ T v, ecv L n = .iface T v := by cases L <;> exact ⟨_, _, rfl⟩
  rw [he]
  (refine c_sq fun k9 h9 => c_rg <| r_as rfl rfl <| r_nx h9 <| c_sq fun k11 h11 => c_sq fun k13 h13 => c_rg <| r_mv rfl rfl <| r_bk (.bool false) rfl rfl (fun _ => by kernel_rfl) rfl <| r_nx h13 <| c_cF rfl <| c_sk <| WE.then_n h11 <| c_sq fun k15 h15 => c_rg <| r_mv rfl rfl <| r_mv rfl rfl <| r_bd rfl (fun _ => by kernel_rfl) rfl <| r_bx rfl rfl rfl (fun _ => ?_); refine r_mi rfl (fun _ => by kernel_rfl) rfl <| r_as rfl rfl <| r_nx h15 <| c_rt ?_; rotate_left)
  rename_i b
  exact WE.ret1 b rfl rfl rfl trivial Mem.keep

theorem unwrap_spec (b : Nat) (s : ByteArray) (v : Value) (w0 : World) (m0 : List Res) (h : Rd w0 m0 (some ⟨b, 0, none⟩) [.string s, v]) :
    PureC Try.prog 86 [.pointer (some ⟨b, 0, none⟩)] w0 m0 v := by
  refine Ct.of Try.func86 rfl (by kernel_rfl) rfl ?_
  (refine c_sq fun k7 h7 => c_rg <| r_as rfl rfl <| r_nx h7 <| c_sq fun k9 h9 => c_sq fun k11 h11 => c_rg <| r_mv rfl rfl <| r_bk (.bool false) rfl rfl (fun _ => by kernel_rfl) rfl <| r_nx h11 <| c_cF rfl <| c_sk <| WE.then_n h9 <| c_sq fun k13 h13 => c_rg <| r_mv rfl rfl <| r_nc rfl rfl <| r_fa 1 rfl (fun _ => by kernel_rfl) rfl ?_; rotate_left)
  refine r_lr (A := some ⟨b, 0, none⟩) (i := 1) Try.underlying25 rfl rfl rfl (h.app _) rfl ?_
  (refine r_as rfl rfl <| r_nx h13 <| c_rt ?_; rotate_left)
  exact WE.ret1 () rfl rfl rfl trivial Mem.drop

theorem ecv_form (L : List (Nat × ByteArray)) (n : Int) : ∃ T v, ecv L n = .iface T v := by cases L <;> exact ⟨_, _, rfl⟩

theorem is_loop (L : List (Nat × ByteArray)) (n k : Int) (w0 : World) (m0 : List Res) (hL : EcR w0 m0 L n) :
    PureC Try.prog 26 [ecv L n, .iface 31 (.int .i64 k), .bool true] w0 m0 (.bool (decide (n = k))) := by
  refine Ct.of Try.func26 rfl (by kernel_rfl) rfl ?_
  (refine c_sq fun k7 h7 => c_rg <| r_as rfl rfl <| r_nx h7 <| c_bl ?_; rotate_left)
  refine WC.loop (α := List (Nat × ByteArray)) (fun r => [(0, ecv r n), (1, .iface 31 (.int .i64 k)), (2, .bool true)]) (fun _ => []) (fun r => EcR w0 m0 r n) (fun r => r.length) L hL ⟨rfl, rfl, rfl, trivial⟩ Mem.keep ?_
  rintro r hr
  cases r with
  | nil =>
    show WC _ _ _ [(0, .iface 31 (.int .i64 n)), (1, .iface 31 (.int .i64 k)), (2, .bool true)] _
    (refine c_bl <| c_sq fun k10 h10 => c_sq fun k12 h12 => c_rg <| r_mv rfl rfl <| r_mv rfl rfl <| r_mv rfl rfl <| r_mv rfl rfl ?_; rotate_left)
    refine r_bk (.bool (n == k)) rfl rfl (fun _ => by kernel_rfl) rfl ?_
    by_cases hnk : n = k
    · rw [show (n == k) = true by simpa using hnk]
      (refine r_pT rfl rfl rfl <| r_nx h12 <| c_cT rfl <| c_sq fun k15 h15 => c_rg <| r_as rfl rfl <| r_nx h15 <| c_rt <| WE.then_r <| WE.blk_r <| WE.then_r <| WE.blk_r ?_; rotate_left)
      exact WE.ret1 () rfl rfl (by rw [decide_eq_true hnk]; rfl) trivial Mem.drop
    · rw [show (n == k) = false by simpa using hnk]
      (refine r_pT rfl rfl rfl <| r_nx h12 <| c_cF rfl <| c_sk <| WE.then_n h10 <| c_sq fun k15 h15 => c_sq fun k17 h17 => c_rg <| r_mv rfl rfl ?_; rotate_left)
      refine r_ta rfl (noIsN _ _) rfl ?_
      (refine r_mv rfl rfl <| r_ex rfl rfl rfl <| r_ex rfl rfl rfl <| r_as rfl rfl <| r_as rfl rfl <| r_nx h17 <| c_sq fun k19 h19 => c_rg <| r_mv rfl rfl <| r_mv rfl rfl <| r_sk rfl rfl <| r_sk rfl rfl <| r_sk rfl rfl <| r_pF rfl rfl rfl <| r_nx h19 <| c_cF rfl <| c_sk <| WE.then_n h15 <| c_sq fun k21 h21 => c_rg <| r_mv rfl rfl <| r_nx h21 <| c_bl <| c_sq fun k23 h23 => c_rg ?_; rotate_left)
      refine r_ta rfl (noUnN _ _) rfl ?_
      (refine r_ex rfl rfl rfl <| r_ex rfl rfl rfl <| r_nx h23 <| c_cF rfl <| c_sq fun k25 h25 => c_rg ?_; rotate_left)
      refine r_ta rfl (noUnsN _ _) rfl ?_
      (refine r_ex rfl rfl rfl <| r_ex rfl rfl rfl <| r_nx h25 <| c_cF rfl <| c_sq fun k27 h27 => c_rg <| r_as rfl rfl <| r_nx h27 <| c_sq fun k29 h29 => c_rg <| r_as rfl rfl <| r_nx h29 <| c_rt <| WE.blk_r <| WE.blk_r <| WE.then_r <| WE.blk_r ?_; rotate_left)
      exact WE.ret1 () rfl rfl (by rw [decide_eq_false hnk]; rfl) trivial Mem.drop
  | cons p r =>
    obtain ⟨b, s⟩ := p
    obtain ⟨hr1, hr2⟩ := hr
    obtain ⟨T, v, he⟩ := ecv_form r n
    show WC _ _ _ [(0, .iface 54 (.pointer (some ⟨b, 0, none⟩))), (1, .iface 31 (.int .i64 k)), (2, .bool true)] _
    (refine c_bl <| c_sq fun k20 h20 => c_sq fun k22 h22 => c_rg <| r_mv rfl rfl <| r_mv rfl rfl <| r_mv rfl rfl <| r_mv rfl rfl ?_; rotate_left)
    refine r_bk (.bool false) rfl rfl (fun _ => by kernel_rfl) rfl ?_
    (refine r_pT rfl rfl rfl <| r_nx h22 <| c_cF rfl <| c_sk <| WE.then_n h20 <| c_sq fun k24 h24 => c_sq fun k26 h26 => c_rg <| r_mv rfl rfl ?_; rotate_left)
    refine r_ta rfl (noIsF _ _) rfl ?_
    (refine r_mv rfl rfl <| r_ex rfl rfl rfl <| r_ex rfl rfl rfl <| r_as rfl rfl <| r_as rfl rfl <| r_nx h26 <| c_sq fun k28 h28 => c_rg <| r_mv rfl rfl <| r_mv rfl rfl <| r_sk rfl rfl <| r_sk rfl rfl <| r_sk rfl rfl <| r_pF rfl rfl rfl <| r_nx h28 <| c_cF rfl <| c_sk <| WE.then_n h24 <| c_sq fun k30 h30 => c_rg <| r_mv rfl rfl <| r_nx h30 <| c_bl <| c_sq fun k32 h32 => c_rg ?_; rotate_left)
    refine r_ta rfl (hasUnF _ _) rfl ?_
    (refine r_ex rfl rfl rfl <| r_ex rfl rfl rfl <| r_nx h32 <| c_cT rfl <| c_sq fun k34 h34 => c_rg <| r_as rfl rfl <| r_nx h34 <| c_sq fun k36 h36 => c_rg <| r_mv rfl rfl ?_; rotate_left)
    refine WX.invoke (m1 := []) (m2 := []) rfl rfl (fun _ => by kernel_rfl) rfl (unwrap_spec b s _ _ _ (Rd.app hr1 _)) rfl rfl (fun _ _ => ?_)
    rw [he]
    (refine r_as rfl rfl <| r_nx h36 <| c_sq fun k40 h40 => c_rg <| r_mv rfl rfl <| r_bk (.bool false) rfl rfl (fun _ => by kernel_rfl) rfl <| r_nx h40 <| c_cF rfl <| c_sk <| WE.blk_n <| WE.blk_n ?_; rotate_left)
    exact WE.back r hr2 (by simp) ⟨by rw [he]; rfl, rfl, rfl, trivial⟩ Mem.keep

theorem is_spec (L : List (Nat × ByteArray)) (n k : Int) (w0 : World) (m0 : List Res) (hL : EcR w0 m0 L n) :
    PureC Try.prog 8 [ecv L n, .iface 31 (.int .i64 k)] w0 m0 (.bool (decide (n = k))) := by
  refine Ct.of Try.func8 rfl (by kernel_rfl) rfl ?_
  obtain ⟨T, v, he⟩ := ecv_form L n
  have hi := fun m1 => is_loop L n k w0 (m1 ++ m0)
  rw [he] at hi ⊢
  (refine c_sq fun k12 h12 => c_rg <| r_as rfl rfl <| r_nx h12 <| c_sq fun k14 h14 => c_sq fun k16 h16 => c_rg <| r_mv rfl rfl <| r_bk (.bool false) rfl rfl (fun _ => by kernel_rfl) rfl <| r_mv rfl rfl <| r_mv rfl rfl <| r_bk (.bool false) rfl rfl (fun _ => by kernel_rfl) rfl <| r_pF rfl rfl rfl <| r_nx h16 <| c_cF rfl <| c_sk <| WE.then_n h14 <| c_sq fun k18 h18 => c_rg <| r_mv rfl rfl ?_; rotate_left)
  refine r_xv (v := .iface 81 (.agg #[.pointer (some ⟨1, 31, none⟩)])) rfl rfl (fun _ => by kernel_rfl) rfl ?_
  refine r_iv (v := .bool true) rfl rfl (fun _ => by kernel_rfl) rfl ?_
  (refine r_as rfl rfl <| r_nx h18 <| c_sq fun k20 h20 => c_rg <| r_mv rfl rfl <| r_mv rfl rfl <| r_mv rfl rfl ?_; rotate_left)
  refine WX.pure rfl rfl (hi _ (EcR.app hL _)) rfl rfl ?_
  (refine r_as rfl rfl <| r_nx h20 <| c_rt ?_; rotate_left)
  exact WE.ret1 () rfl rfl rfl trivial Mem.drop
end Go.Proofs.Ythnabbidlmihbaa
