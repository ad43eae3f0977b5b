/- (*strings.Builder).Grow, strings.Join: the walks. -/
import Derived.Test.YthnabbidlmihbaaGrow
namespace Go.Proofs.Ythnabbidlmihbaa
open Go.RowKit Go.Gp

set_option maxRecDepth 100000 in
theorem bGrow_spec (u : Bool) (g : Nat) (n : Nat) (hn : n ≤ 1000000000000) (w0 : World) (m0 : List Res) :
    Ct (α := Option Addr × Nat) Try.prog 31 [.pointer (some ⟨g, 0, none⟩), .int .i64 n] w0 [BB u g (none, 0) []] m0 (fun _ => True) (fun _ => .tuple #[]) (fun p => [BB true g p [], OwnB p []]) := by
  refine Ct.of Try.func31 rfl (by kernel_rfl) rfl ?_
  (refine c_sq fun k7 h7 => c_rg <| r_mv rfl rfl ?_; rotate_left)
  refine WX.call (m1 := [BB u g (none, 0) []]) (m2 := []) rfl rfl rfl (copyCheck_spec u g _ _ _) rfl rfl (fun _ _ => ?_)
  (refine r_nx h7 <| c_sq fun k11 h11 => c_sq fun k13 h13 => c_rg <| r_mv rfl rfl <| r_ltF rfl rfl rfl (by omega) <| r_nx h13 <| c_cF rfl <| c_sk <| WE.then_n h11 <| c_sq fun k15 h15 => c_dr rfl (by kernel_rfl) (by kernel_rfl) <| r_mv rfl rfl <| r_nc rfl rfl <| r_fa 1 rfl (fun _ => by kernel_rfl) rfl <| r_lb 0 Try.underlying59 rfl rfl rfl rfl rfl ?_; rotate_left)
  refine r_cp Try.underlying59 rfl rfl ?_
  by_cases h0 : n = 0
  · (refine r_mv rfl rfl <| r_nc rfl rfl <| r_fa 1 rfl (fun _ => by kernel_rfl) rfl <| r_lb 0 Try.underlying59 rfl rfl rfl rfl rfl <| r_ls Try.underlying59 rfl rfl ?_; rotate_left)
    refine r_su (r := 0) rfl rfl rfl rfl ?_
    (refine r_mv rfl rfl <| r_ltF rfl rfl rfl (by omega) <| r_nx h15 <| c_cF rfl <| c_sk ?_; rotate_left)
    exact WE.end0 (none, 0) rfl rfl rfl trivial (fun w hw => Mem.pick (m' := [BB true g (none, 0) [], OwnB (none, 0) []]) [1, 0] (by decide) rfl w (Mem.addNil _ _ w hw))
  · (refine r_mv rfl rfl <| r_nc rfl rfl <| r_fa 1 rfl (fun _ => by kernel_rfl) rfl <| r_lb 0 Try.underlying59 rfl rfl rfl rfl rfl <| r_ls Try.underlying59 rfl rfl ?_; rotate_left)
    refine r_su (r := 0) rfl rfl rfl rfl ?_
    (refine r_mv rfl rfl <| r_ltT rfl rfl rfl (by omega) <| r_nx h15 <| c_cT rfl <| c_rg <| r_mv rfl rfl <| r_mv rfl rfl ?_; rotate_left)
    refine WX.call (m1 := [BB true g (none, 0) []]) (m2 := []) rfl rfl rfl (grow_spec true g n hn _ _) rfl rfl (fun p _ => ?_)
    (refine r_nl ?_; rotate_left)
    exact WE.end0 p rfl rfl rfl trivial Mem.keep
abbrev strsV (l : List ByteArray) : List Value := l.map (.string ·)
def catB (l : List ByteArray) : List UInt8 := l.flatMap fun s => s.data.toList
def tailJ (sep : ByteArray) (l : List ByteArray) : List UInt8 := l.flatMap fun s => sep.data.toList ++ s.data.toList
/-- The texts, with another between. -/
def joinP (sep : ByteArray) : List ByteArray → ByteArray
  | [] => ⟨#[]⟩
  | [s] => s
  | s :: r => strOf' (s.data.toList ++ tailJ sep r)
where strOf' (l : List UInt8) : ByteArray := ⟨l.toArray⟩
end Go.Proofs.Ythnabbidlmihbaa
