/- The law FoldOnce: the walk. -/
import Derived.Test.YtbcceecocjpnpaaAwake5
import Derived.Test.YtbcceecocjpnpaaLawFold
import Derived.Test.YtbcceecocjpnpaaFoldMaps
namespace Go.Proofs.Ytbcceecocjpnpaa
open Go.RowKit Go.Gp

theorem R32.of_mem {l : List Int} (h : ∀ n ∈ l, -2147483648 ≤ n ∧ n ≤ 2147483647) : R32 l := fun i hi => h _ (by simp [hi])
theorem Fx.r32 {l : List Int} (h : ∀ n ∈ l, Fx n) : R32 l := R32.of_mem fun n hn => by
  have := h n hn
  obtain ⟨h1, _⟩ := this
  omega
set_option maxRecDepth 100000 in
theorem foldOnce_spec (A : Option Addr) (c : Nat) (l : List Int) (hl : ∀ n ∈ l, -2147483648 ≤ n ∧ n ≤ 2147483647) (w0 : World) (m0 : List Res) (hA : Rd w0 m0 A (runes l)) : PureC Try.prog 4 [.slice A l.length c] w0 m0 (.bool true) := by
  refine Ct.of Try.func4 rfl (by kernel_rfl) rfl ?_
  by_cases hn : l.length ≤ 100
  · (refine c_sq fun k9 h9 => c_rg <| r_as rfl rfl <| r_nx h9 <| c_sq fun k11 h11 => c_rg ?_; rotate_left)
    refine WX.pure rfl rfl (awake5_spec _ _) rfl rfl ?_
    (refine r_as rfl rfl <| r_nx h11 <| c_sq fun k13 h13 => c_sq fun k15 h15 => c_rg <| r_mv rfl rfl <| r_ls Try.underlying23 rfl rfl <| r_gtF rfl rfl rfl (by omega) <| r_nx h15 <| c_cF rfl <| c_sk <| WE.then_n h13 <| c_sq fun k17 h17 => c_rg <| r_mv rfl rfl ?_; rotate_left)
    rcases Bool.eq_false_or_eq_true (okAll l) with hok | hok
    · have hm := mapAll_length l
      have hc := compR_length (mapAll l)
      obtain ⟨o1, o2⟩ := fold_once hl
      refine WX.call (m1 := []) (m2 := []) rfl rfl rfl (fold_ok A c l (by omega) (R32.of_mem hl) hok _ _ (hA.app _)) rfl rfl (fun p _ => ?_)
      (refine r_mv rfl rfl <| r_ex rfl rfl rfl <| r_ex rfl rfl rfl <| r_as rfl rfl <| r_as rfl rfl <| r_nx h17 <| c_sq fun k26 h26 => c_sq fun k28 h28 => c_rg <| r_mv rfl rfl <| r_bk (.bool false) rfl rfl (fun _ => by kernel_rfl) rfl <| r_nx h28 <| c_cF rfl <| c_sk <| WE.then_n h26 <| c_sq fun k30 h30 => c_rg <| r_mv rfl rfl ?_; rotate_left)
      refine WX.call (m1 := []) (m2 := [OwnR p (compR (mapAll l))]) rfl rfl rfl (fold_ok _ _ (compR (mapAll l)) (by omega) (Fx.r32 (compR_fx (mapAll_fx hl))) o1 _ _ (Rd.own 0 rfl)) rfl rfl (fun q _ => ?_)
      (refine r_mv rfl rfl <| r_ex rfl rfl rfl <| r_ex rfl rfl rfl <| r_as rfl rfl <| r_as rfl rfl <| r_nx h30 <| c_sq fun k34 h34 => c_rg <| r_mv rfl rfl <| r_mv rfl rfl <| r_mv rfl rfl <| r_bk (.bool true) rfl rfl (fun _ => by kernel_rfl) rfl <| r_pT rfl rfl rfl <| r_mv rfl rfl <| r_mv rfl rfl <| r_mv rfl rfl ?_; rotate_left)
      refine WX.pure rfl rfl (same_eq (compR (mapAll l)) (compR (mapAll (compR (mapAll l)))) o2.symm (by omega) _ _ (Rd.own 1 rfl) (Rd.own 0 rfl)) rfl rfl ?_
      (refine r_pT rfl rfl rfl <| r_mv rfl rfl <| r_mv rfl rfl ?_; rotate_left)
      refine WX.call (m1 := []) (m2 := [OwnR q (compR (mapAll (compR (mapAll l)))), OwnR p (compR (mapAll l))]) rfl rfl rfl (compose_spec _ _ (compR (mapAll l)) (by omega) _ _ (Rd.own 1 rfl)) rfl rfl (fun r _ => ?_)
      (refine r_mv rfl rfl ?_; rotate_left)
      refine WX.pure rfl rfl (same_eq (compR (compR (mapAll l))) (compR (mapAll l)) (comp_comp _) (by rw [comp_comp]; omega) _ _ (Rd.own 0 rfl) (Rd.own 2 rfl)) rfl rfl ?_
      (refine r_pT rfl rfl rfl <| r_as rfl rfl <| r_nx h34 <| c_rt ?_; rotate_left)
      exact WE.ret1 () rfl rfl rfl trivial Mem.drop
    · refine WX.call (m1 := []) (m2 := []) rfl rfl rfl (fold_no A c l (by omega) (R32.of_mem hl) hok _ _ (hA.app _)) rfl rfl (fun b _ => ?_)
      simp only [ecv]
      (refine r_mv rfl rfl <| r_ex rfl rfl rfl <| r_ex rfl rfl rfl <| r_as rfl rfl <| r_as rfl rfl <| r_nx h17 <| c_sq fun k22 h22 => c_sq fun k24 h24 => c_rg <| r_mv rfl rfl <| r_bk (.bool true) rfl rfl (fun _ => by kernel_rfl) rfl <| r_nx h24 <| c_cT rfl <| c_sq fun k26 h26 => c_rg <| r_mv rfl rfl <| r_mv rfl rfl <| r_mv rfl rfl <| r_ls Try.underlying23 rfl rfl <| r_eqT rfl rfl rfl (by omega) <| r_pT rfl rfl rfl <| r_as rfl rfl <| r_nx h26 <| c_rt <| WE.then_r ?_; rotate_left)
      exact WE.ret1 () rfl rfl rfl trivial Mem.drop
  · (refine c_sq fun k9 h9 => c_rg <| r_as rfl rfl <| r_nx h9 <| c_sq fun k11 h11 => c_rg ?_; rotate_left)
    refine WX.pure rfl rfl (awake5_spec _ _) rfl rfl ?_
    (refine r_as rfl rfl <| r_nx h11 <| c_sq fun k13 h13 => c_sq fun k15 h15 => c_rg <| r_mv rfl rfl <| r_ls Try.underlying23 rfl rfl <| r_gtT rfl rfl rfl (by omega) <| r_nx h15 <| c_cT rfl <| c_sq fun k17 h17 => c_rg <| r_mv rfl rfl <| r_as rfl rfl <| r_nx h17 <| c_rt <| WE.then_r ?_; rotate_left)
    exact WE.ret1 () rfl rfl rfl trivial Mem.drop
end Go.Proofs.Ytbcceecocjpnpaa
