/- The law FoldFolds: the walk. -/
import Derived.Test.YtbcceecocjpnpaaDoorAwake5
import Derived.Test.YtbcceecocjpnpaaDoorLawComp
import Derived.Test.YtbcceecocjpnpaaDoorCode
import Derived.Test.YtbcceecocjpnpaaDoorSame
namespace Go.Proofs.YtbcceecocjpnpaaDoor
open Go.RowKit Go.Gp

set_option maxRecDepth 100000 in
theorem foldFolds_spec (A : Option Addr) (c : Nat) (l : List Int) (hl : ∀ n ∈ l, -2147483648 ≤ n ∧ n ≤ 2147483647) (w0 : World) (m0 : List Res) (hA : Rd w0 m0 A (runes l)) (hE : Rd w0 m0 (some ⟨0, 0, none⟩) [errT]) :
    PureC Tryd.prog 3 [.slice A l.length c] w0 m0 (.bool true) := by
  refine Ct.of Tryd.func3 rfl (by kernel_rfl) rfl ?_
  by_cases hn : l.length ≤ 100
  · have hm := mapAll_length l
    have hc := compR_length (mapAll l)
    have hc2 := compR_length l
    (refine c_sq fun k13 h13 => c_rg <| r_as rfl rfl <| r_nx h13 <| c_sq fun k15 h15 => c_rg ?_; rotate_left)
    refine WX.pure rfl rfl (awake5_spec _ _) rfl rfl ?_
    (refine r_as rfl rfl <| r_nx h15 <| c_sq fun k17 h17 => c_sq fun k19 h19 => c_rg <| r_mv rfl rfl <| r_ls Tryd.underlying22 rfl rfl <| r_gtF rfl rfl rfl (by omega) <| r_nx h19 <| c_cF rfl <| c_sk <| WE.then_n h17 <| c_sq fun k21 h21 => c_rg <| r_bo Tryd.underlying22 rfl (fun _ => by kernel_rfl) rfl rfl rfl (fun _ => ?_); refine r_mv rfl rfl ?_; rotate_left)
    refine r_am (xs := []) (ys := l) 0 (z := .int .i32 0) (by_ := 4) (f := (.int .i32 ·)) Tryd.underlying22 (by kernel_rfl) rfl rfl rfl rfl (hA.app _) rfl (fun _ => rfl) (by simp; omega) rfl (fun was _ => ?_)
    rw [List.nil_append]
    (refine r_as rfl rfl <| r_nx h21 <| c_sq fun k26 h26 => c_rg <| r_mv rfl rfl ?_; rotate_left)
    rcases Bool.eq_false_or_eq_true (okAll l) with hok | hok
    · refine WX.call (m1 := []) (m2 := _) rfl rfl rfl (fold_ok A c l (by omega) (R32.of_mem hl) hok _ _ (hA.app _)) rfl rfl (fun p _ => ?_)
      (refine r_mv rfl rfl <| r_ex rfl rfl rfl <| r_ex rfl rfl rfl <| r_as rfl rfl <| r_as rfl rfl <| r_nx h26 <| c_sq fun k31 h31 => c_rg <| r_mv rfl rfl ?_; rotate_left)
      refine WX.call (m1 := []) (m2 := _) rfl rfl rfl (rfold_ok A c l (by omega) hl hok _ _ (hA.app _)) rfl rfl (fun q _ => ?_)
      (refine r_mv rfl rfl <| r_ex rfl rfl rfl <| r_ex rfl rfl rfl <| r_as rfl rfl <| r_as rfl rfl <| r_nx h31 <| c_sq fun k35 h35 => c_rg <| r_mv rfl rfl <| r_mv rfl rfl <| r_mv rfl rfl <| r_mv rfl rfl ?_; rotate_left)
      refine WX.pure rfl rfl (same_eq (compR (mapAll l)) (rComp (mapAll l)) (comp_law _).symm (by omega) _ _ (Rd.own 1 rfl) (Rd.own 0 rfl)) rfl rfl ?_
      (refine r_pT rfl rfl rfl <| r_mv rfl rfl <| r_mv rfl rfl ?_; rotate_left)
      refine WX.pure rfl rfl (code_nil _ _) rfl rfl ?_
      (refine r_mv rfl rfl <| r_eqT rfl rfl rfl (by omega) <| r_pT rfl rfl rfl <| r_mv rfl rfl <| r_mv rfl rfl ?_; rotate_left)
      refine WX.call (m1 := []) (m2 := _) rfl rfl rfl (compose_spec A c l (by omega) _ _ (hA.app _)) rfl rfl (fun r _ => ?_)
      (refine r_mv rfl rfl ?_; rotate_left)
      refine WX.call (m1 := []) (m2 := _) rfl rfl rfl (rcomp_spec A c l (by omega) _ _ (hA.app _)) rfl rfl (fun s _ => ?_)
      refine WX.pure rfl rfl (same_eq (compR l) (rComp l) (comp_law _).symm (by omega) _ _ (Rd.own 1 rfl) (Rd.own 0 rfl)) rfl rfl ?_
      (refine r_pT rfl rfl rfl <| r_mv rfl rfl <| r_mv rfl rfl <| r_mv rfl rfl ?_; rotate_left)
      refine WX.pure rfl rfl (same_eq l l rfl (by omega) _ _ (hA.app _) (Rd.own 4 rfl)) rfl rfl ?_
      (refine r_pT rfl rfl rfl <| r_as rfl rfl <| r_nx h35 <| c_rt ?_; rotate_left)
      exact WE.ret1 () rfl rfl rfl trivial Mem.drop
    · refine WX.call (m1 := []) (m2 := _) rfl rfl rfl (fold_no A c l (by omega) (R32.of_mem hl) hok _ _ (hA.app _)) rfl rfl (fun b _ => ?_)
      have hs : ∀ mm, EcR w0 mm [(b, sFold)] 2 → Rd w0 mm (some ⟨0, 0, none⟩) [errT] → PureC Tryd.prog 8 [ecv [(b, sFold)] 2] w0 mm (.int .i64 2) := fun mm h h2 => code_spec [(b, sFold)] 2 w0 mm h h2
      simp only [ecv] at hs ⊢
      (refine r_mv rfl rfl <| r_ex rfl rfl rfl <| r_ex rfl rfl rfl <| r_as rfl rfl <| r_as rfl rfl <| r_nx h26 <| c_sq fun k32 h32 => c_rg <| r_mv rfl rfl ?_; rotate_left)
      refine WX.call (m1 := []) (m2 := _) rfl rfl rfl (rfold_no A c l (by omega) hl hok _ _ (hA.app _)) rfl rfl (fun _ _ => ?_)
      (refine r_mv rfl rfl <| r_ex rfl rfl rfl <| r_ex rfl rfl rfl <| r_as rfl rfl <| r_as rfl rfl <| r_nx h32 <| c_sq fun k36 h36 => c_rg <| r_mv rfl rfl <| r_mv rfl rfl <| r_mv rfl rfl <| r_mv rfl rfl ?_; rotate_left)
      refine WX.pure rfl rfl (same_eq [] [] rfl (by simp) _ _ (Rd.nil _) (Rd.nil _)) rfl rfl ?_
      (refine r_pT rfl rfl rfl <| r_mv rfl rfl <| r_mv rfl rfl ?_; rotate_left)
      refine WX.pure (v := .int .i64 2) rfl rfl (hs _ ⟨Rd.blk 0 rfl, trivial⟩ (hE.app _)) rfl rfl ?_
      (refine r_mv rfl rfl <| r_eqT rfl rfl rfl (by omega) <| r_pT rfl rfl rfl <| r_mv rfl rfl <| r_mv rfl rfl ?_; rotate_left)
      refine WX.call (m1 := []) (m2 := _) rfl rfl rfl (compose_spec A c l (by omega) _ _ (hA.app _)) rfl rfl (fun r _ => ?_)
      (refine r_mv rfl rfl ?_; rotate_left)
      refine WX.call (m1 := []) (m2 := _) rfl rfl rfl (rcomp_spec A c l (by omega) _ _ (hA.app _)) rfl rfl (fun s _ => ?_)
      refine WX.pure rfl rfl (same_eq (compR l) (rComp l) (comp_law _).symm (by omega) _ _ (Rd.own 1 rfl) (Rd.own 0 rfl)) rfl rfl ?_
      (refine r_pT rfl rfl rfl <| r_mv rfl rfl <| r_mv rfl rfl <| r_mv rfl rfl ?_; rotate_left)
      refine WX.pure rfl rfl (same_eq l l rfl (by omega) _ _ (hA.app _) (Rd.own 3 rfl)) rfl rfl ?_
      (refine r_pT rfl rfl rfl <| r_as rfl rfl <| r_nx h36 <| c_rt ?_; rotate_left)
      exact WE.ret1 () rfl rfl rfl trivial Mem.drop
  · (refine c_sq fun k10 h10 => c_rg <| r_as rfl rfl <| r_nx h10 <| c_sq fun k12 h12 => c_rg ?_; rotate_left)
    refine WX.pure rfl rfl (awake5_spec _ _) rfl rfl ?_
    (refine r_as rfl rfl <| r_nx h12 <| c_sq fun k14 h14 => c_sq fun k16 h16 => c_rg <| r_mv rfl rfl <| r_ls Tryd.underlying22 rfl rfl <| r_gtT rfl rfl rfl (by omega) <| r_nx h16 <| c_cT rfl <| c_sq fun k18 h18 => c_rg <| r_mv rfl rfl <| r_as rfl rfl <| r_nx h18 <| c_rt <| WE.then_r ?_; rotate_left)
    exact WE.ret1 () rfl rfl rfl trivial Mem.drop
end Go.Proofs.YtbcceecocjpnpaaDoor
