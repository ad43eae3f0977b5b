/- The ranges of code points that a name's mapping knows. -/
import Derived.Test.YthnabbidlmihbaaRows
import Derived.Test.YthnabbidlmihbaaSep
namespace Go.Proofs.Ythnabbidlmihbaa
open Go.RowKit Go.Gp
def spanList : List (Int × Int × Int) := [
 (65,90,32),(128,160,-1),(173,173,-2),(192,214,32),(216,222,32),(913,929,32),(931,937,32),(1024,1039,80),(1040,1071,32),(5760,5760,-1),(7838,7838,-5),(8192,8202,-1),(8203,8203,-2),(8206,8207,-1),(8232,8239,-1),(8287,8287,-1),(8288,8288,-2),(8294,8297,-1),(12290,12290,-3),(55296,57343,-1),(57344,63743,-1),(64976,65007,-1),(65279,65279,-2),(65281,65374,-4),(65377,65377,-3),(65529,65535,-1),(917504,2147483647,-1),(-2147483648,-1,-1)]
def spanVals : List Value := spanList.flatMap fun s => [.int .i32 s.1, .int .i32 s.2.1, .int .i32 s.2.2]
def zeros84 : List Value := List.replicate 84 (.int .i32 0)
theorem zeroSpans (w : World) : (zeroValue 92).run Try.prog w = .ok (.agg zeros84.toArray) w := by kernel_rfl
set_option maxRecDepth 100000 in
theorem spans_spec (w0 : World) (m0 : List Res) : PureC Try.prog 49 [] w0 m0 (.agg spanVals.toArray) := by
  refine Ct.of Try.func49 rfl (by kernel_rfl) rfl ?_
  refine c_sq fun _ _ => (c_rg (r_al zeroSpans (cs := zeros84) rfl rfl fun g => r_nx (by with_reducible assumption) ?_))
  refine c_sq fun _ _ => (c_rg ?_)
  iterate 28 (refine r_bd rfl (fun _ => by kernel_rfl) rfl ?_)
  refine r_bu (v := .agg spanVals.toArray) rfl (fun _ => by kernel_rfl) rfl ?_
  refine r_sa 0 (by kernel_rfl) rfl rfl (by decide +kernel) rfl rfl rfl rfl ?_
  refine r_nx (by with_reducible assumption) (c_rt ?_)
  exact WE.retc (i := 0) () rfl rfl Try.underlying92 rfl (by kernel_rfl) rfl rfl rfl trivial Mem.drop
def sp (i : Nat) : Int × Int × Int := spanList.getD i (0, 0, 0)
theorem indexSpans (i : Nat) (h : i < 28) (w : World) : (Instr.index 92 (.agg spanVals.toArray) (.int .i64 i)).run Try.prog w = .ok (.agg #[.int .i32 (sp i).1, .int .i32 (sp i).2.1, .int .i32 (sp i).2.2]) w := by
  have h' : i = 0 ∨ i = 1 ∨ i = 2 ∨ i = 3 ∨ i = 4 ∨ i = 5 ∨ i = 6 ∨ i = 7 ∨ i = 8 ∨ i = 9 ∨ i = 10 ∨ i = 11 ∨ i = 12 ∨ i = 13 ∨ i = 14 ∨ i = 15 ∨ i = 16 ∨ i = 17 ∨ i = 18 ∨ i = 19 ∨ i = 20 ∨ i = 21 ∨ i = 22 ∨ i = 23 ∨ i = 24 ∨ i = 25 ∨ i = 26 ∨ i = 27 := by omega
  rcases h' with rfl | rfl | rfl | rfl | rfl | rfl | rfl | rfl | rfl | rfl | rfl | rfl | rfl | rfl | rfl | rfl | rfl | rfl | rfl | rfl | rfl | rfl | rfl | rfl | rfl | rfl | rfl | rfl
  all_goals (show _ = _; kernel_rfl)
end Go.Proofs.Ythnabbidlmihbaa
