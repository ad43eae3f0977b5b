/- The law FoldMaps: the walk. -/
import Derived.Test.YtbcceecocjpnpaaAwake5
import Derived.Test.YtbcceecocjpnpaaLawMap
import Derived.Test.YtbcceecocjpnpaaSame
namespace Go.Proofs.Ytbcceecocjpnpaa
open Go.RowKit Go.Gp

theorem refMap_short (c : Int) (h1 : -2147483648 ≤ c) (h2 : c ≤ 2147483647) : (refMap c).1.length ≤ 2 := by rw [← map_law c h1 h2]; exact mapP_short c
theorem same_eq {A B : Option Addr} {c d : Nat} (l k : List Int) (h : l = k) (hn : l.length ≤ 140737488355328) (w0 : World) (m0 : List Res) (hA : Rd w0 m0 A (runes l)) (hB : Rd w0 m0 B (runes k)) :
    PureC Try.prog 10 [.slice A l.length c, .slice B k.length d] w0 m0 (.bool true) := by
  have hs := same_spec A B c d l k w0 m0 hA hB hn
  rwa [decide_eq_true h] at hs
set_option maxRecDepth 100000 in
theorem foldMaps_spec (c : Int) (h1 : -2147483648 ≤ c) (h2 : c ≤ 2147483647) (w0 : World) (m0 : List Res) : PureC Try.prog 3 [.int .i32 c] w0 m0 (.bool true) := by
  refine Ct.of Try.func3 rfl (by kernel_rfl) rfl ?_
  (refine c_sq fun k6 h6 => c_rg <| r_as rfl rfl <| r_nx h6 <| c_sq fun k8 h8 => c_rg ?_; rotate_left)
  refine WX.pure rfl rfl (awake5_spec _ _) rfl rfl ?_
  (refine r_as rfl rfl <| r_nx h8 <| c_sq fun k10 h10 => c_rg <| r_mv rfl rfl ?_; rotate_left)
  refine WX.call (m1 := []) (m2 := _) rfl rfl rfl (map_spec c h1 h2 _ _) rfl rfl (fun p _ => ?_)
  (refine r_mv rfl rfl <| r_ex rfl rfl rfl <| r_ex rfl rfl rfl <| r_as rfl rfl <| r_as rfl rfl <| r_nx h10 <| c_sq fun k14 h14 => c_rg <| r_mv rfl rfl ?_; rotate_left)
  refine WX.call (m1 := []) (m2 := [OwnR p (mapP c).1]) rfl rfl rfl (refmap_spec c _ _) rfl rfl (fun q _ => ?_)
  (refine r_mv rfl rfl <| r_ex rfl rfl rfl <| r_ex rfl rfl rfl <| r_as rfl rfl <| r_as rfl rfl <| r_nx h14 <| c_sq fun k18 h18 => c_rg <| r_mv rfl rfl <| r_mv rfl rfl <| r_mv rfl rfl <| r_mv rfl rfl ?_; rotate_left)
  refine WX.pure rfl rfl (same_eq (mapP c).1 (refMap c).1 (by rw [map_law c h1 h2]) (by have := mapP_short c; omega) _ _ (Rd.own 1 rfl) (Rd.own 0 rfl)) rfl rfl ?_
  (refine r_pT rfl rfl rfl <| r_mv rfl rfl <| r_mv rfl rfl <| r_mv rfl rfl <| r_bq Try.underlying4 rfl rfl rfl <| r_pT rfl rfl rfl <| r_as rfl rfl <| r_nx h18 <| c_rt ?_; rotate_left)
  rw [show ((mapP c).2 == (refMap c).2) = true by simp [map_law c h1 h2]]
  exact WE.ret1 () rfl rfl rfl trivial Mem.drop
end Go.Proofs.Ytbcceecocjpnpaa
