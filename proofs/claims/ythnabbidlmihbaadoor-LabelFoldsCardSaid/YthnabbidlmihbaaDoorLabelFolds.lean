/- The law LabelFolds: the walk. -/
import Derived.Test.YthnabbidlmihbaaDoorAwake6
import Derived.Test.YthnabbidlmihbaaDoorRefFold
import Derived.Test.YthnabbidlmihbaaDoorLawComp
import Derived.Test.YthnabbidlmihbaaDoorCode
set_option linter.unusedVariables false
namespace Go.Proofs.YthnabbidlmihbaaDoor
open Go.RowKit Go.Gp

set_option maxRecDepth 100000 in
theorem labelFolds_spec (A : Option Addr) (c : Nat) (l : List Int) (hl : ∀ n ∈ l, -2147483648 ≤ n ∧ n ≤ 2147483647) (w0 : World) (m0 : List Res) (hA : Rd w0 m0 A (runes l)) (hE : Rd w0 m0 (some ⟨0, 0, none⟩) [errT]) :
    PureC Tryd.prog 3 [.slice A l.length c] w0 m0 (.bool true) := by
  refine Ct.of Tryd.func3 rfl (by kernel_rfl) rfl ?_
  by_cases hn : l.length ≤ 60
  · have hF := foldP_len l
    have hF2 := fold2 hl
    (refine c_sq fun k12 h12 => c_rg <| r_as rfl rfl <| r_nx h12 <| c_sq fun k14 h14 => c_rg ?_; rotate_left)
    refine WX.pure rfl rfl (awake6_spec _ _) rfl rfl ?_
    (refine r_as rfl rfl <| r_nx h14 <| c_sq fun k16 h16 => c_sq fun k18 h18 => c_rg <| r_mv rfl rfl <| r_ls Tryd.underlying22 rfl rfl <| r_gtF rfl rfl rfl (by omega) <| r_nx h18 <| c_cF rfl <| c_sk <| WE.then_n h16 <| c_sq fun k20 h20 => c_rg <| r_mv rfl rfl ?_; rotate_left)
    rcases Bool.eq_false_or_eq_true (okAll l) with hok | hok
    · have e1 : rComp (mapAll l) = foldP l := comp_law _ |>.symm ▸ rfl
      refine WX.call (m1 := []) (m2 := _) rfl rfl rfl (rfold_ok A c l (by omega) hl hok _ _ (hA.app _)) rfl rfl (fun q _ => ?_)
      rw [e1]
      (refine r_mv rfl rfl <| r_ex rfl rfl rfl <| r_ex rfl rfl rfl <| r_as rfl rfl <| r_as rfl rfl <| r_nx h20 <| c_sq fun k26 h26 => c_rg <| r_mv rfl rfl ?_; rotate_left)
      refine WX.call (m1 := []) (m2 := _) rfl rfl rfl (all_spec A c l (by omega) (R32.of_mem hl) (fun _ => short_ok (by omega)) _ _ (hA.app _)) rfl rfl (fun L _ => ?_)
      have hall := allP_fold hl hok
      have hq : ∀ mm, Rd w0 mm q.1 (runes (foldP l)) → Ct (α := List (Nat × ByteArray)) Tryd.prog 7 [SlR q (foldP l)] w0 [] mm (fun L => L ≠ []) (allV (allP l)) (allM (allP l)) := fun mm h => by
        rw [← hall]
        exact all_spec q.1 q.2 (foldP l) (by omega) (Fx.r32 (foldP_fx hl)) (fun _ => short_ok (by rw [hF2.2]; omega)) _ _ h
      generalize allP l = r at hq ⊢
      cases r with
      | ok s =>
        simp only [allV, allM, List.nil_append] at hq ⊢
        (refine r_mv rfl rfl <| r_ex rfl rfl rfl <| r_ex rfl rfl rfl <| r_as rfl rfl <| r_as rfl rfl <| r_nx h26 <| c_sq fun k35 h35 => c_sq fun k37 h37 => c_rg <| r_mv rfl rfl <| r_neF rfl rfl rfl (by omega) <| r_nx h37 <| c_cF rfl <| c_sk <| WE.then_n h35 <| c_sq fun k39 h39 => c_rg <| r_mv rfl rfl ?_; rotate_left)
        refine WX.call (m1 := []) (m2 := _) rfl rfl rfl (hq _ (Rd.own 0 rfl)) rfl rfl (fun L2 _ => ?_)
        simp only [allV, allM, List.nil_append]
        (refine r_mv rfl rfl <| r_ex rfl rfl rfl <| r_ex rfl rfl rfl <| r_as rfl rfl <| r_as rfl rfl <| r_nx h39 <| c_sq fun k43 h43 => c_rg <| r_mv rfl rfl <| r_mv rfl rfl <| r_mv rfl rfl <| r_mv rfl rfl ?_; rotate_left)
        refine r_seq rfl rfl (fun _ => rfl) rfl ?_
        rw [decide_eq_true rfl]
        (refine r_pT rfl rfl rfl <| r_mv rfl rfl <| r_mv rfl rfl ?_; rotate_left)
        refine WX.pure rfl rfl (code_nil _ _) rfl rfl ?_
        (refine r_mv rfl rfl ?_; rotate_left)
        refine WX.pure rfl rfl (code_nil _ _) rfl rfl ?_
        (refine r_eqT rfl rfl rfl (by omega) <| r_pT rfl rfl rfl <| r_as rfl rfl <| r_nx h43 <| c_rt ?_; rotate_left)
        exact WE.ret1 () rfl rfl rfl trivial Mem.drop
      | error n =>
        simp only [allV, allM] at hq ⊢
        have hc : ∀ mm, EcR w0 mm L n → Rd w0 mm (some ⟨0, 0, none⟩) [errT] → PureC Tryd.prog 9 [ecv L n] w0 mm (.int .i64 n) := fun mm h h2 => code_spec L n w0 mm h h2
        obtain ⟨T, v, he⟩ := ecv_form L n
        rw [he] at hc ⊢
        (refine r_mv rfl rfl <| r_ex rfl rfl rfl <| r_ex rfl rfl rfl <| r_as rfl rfl <| r_as rfl rfl <| r_nx h26 <| c_sq fun k40 h40 => c_sq fun k42 h42 => c_rg <| r_mv rfl rfl <| r_neF rfl rfl rfl (by omega) <| r_nx h42 <| c_cF rfl <| c_sk <| WE.then_n h40 <| c_sq fun k44 h44 => c_rg <| r_mv rfl rfl ?_; rotate_left)
        refine WX.mem (Mem.comm (a := ecm L n) (b := [OwnR q (foldP l)])) ?_
        refine WX.call (m1 := []) (m2 := _) rfl rfl rfl (hq _ (Rd.own 0 rfl)) rfl rfl (fun L2 _ => ?_)
        simp only [allV, allM]
        have hc2 : ∀ mm, EcR w0 mm L2 n → Rd w0 mm (some ⟨0, 0, none⟩) [errT] → PureC Tryd.prog 9 [ecv L2 n] w0 mm (.int .i64 n) := fun mm h h2 => code_spec L2 n w0 mm h h2
        obtain ⟨T2, v2, he2⟩ := ecv_form L2 n
        rw [he2] at hc2 ⊢
        (refine r_mv rfl rfl <| r_ex rfl rfl rfl <| r_ex rfl rfl rfl <| r_as rfl rfl <| r_as rfl rfl <| r_nx h44 <| c_sq fun k53 h53 => c_rg <| r_mv rfl rfl <| r_mv rfl rfl <| r_mv rfl rfl <| r_mv rfl rfl ?_; rotate_left)
        refine r_seq rfl rfl (fun _ => rfl) rfl ?_
        rw [decide_eq_true rfl]
        (refine r_pT rfl rfl rfl <| r_mv rfl rfl <| r_mv rfl rfl ?_; rotate_left)
        refine WX.pure rfl rfl (hc _ (EcR.skip ((EcR.own L).cons _)) (hE.app _)) rfl rfl ?_
        (refine r_mv rfl rfl ?_; rotate_left)
        refine WX.pure rfl rfl (hc2 _ (EcR.own2 L2) (hE.app _)) rfl rfl ?_
        (refine r_eqT rfl rfl rfl (by omega) <| r_pT rfl rfl rfl <| r_as rfl rfl <| r_nx h53 <| c_rt ?_; rotate_left)
        exact WE.ret1 () rfl rfl rfl trivial Mem.drop
    · refine WX.call (m1 := []) (m2 := _) rfl rfl rfl (rfold_no A c l (by omega) hl hok _ _ (hA.app _)) rfl rfl (fun _ _ => ?_)
      (refine r_mv rfl rfl <| r_ex rfl rfl rfl <| r_ex rfl rfl rfl <| r_as rfl rfl <| r_as rfl rfl <| r_nx h20 <| c_sq fun k25 h25 => c_rg <| r_mv rfl rfl ?_; rotate_left)
      refine WX.call (m1 := []) (m2 := _) rfl rfl rfl (all_spec A c l (by omega) (R32.of_mem hl) (fun _ => short_ok (by omega)) _ _ (hA.app _)) rfl rfl (fun L _ => ?_)
      rw [allP_no hok]
      simp only [allV, allM]
      have hs : ∀ mm, EcR w0 mm L 2 → PureC Tryd.prog 8 [ecv L 2, .iface 31 (.int .i64 2)] w0 mm (.bool true) := fun mm h => is_spec L 2 2 w0 mm h
      obtain ⟨T, v, he⟩ := ecv_form L 2
      rw [he] at hs ⊢
      (refine r_mv rfl rfl <| r_ex rfl rfl rfl <| r_ex rfl rfl rfl <| r_as rfl rfl <| r_as rfl rfl <| r_nx h25 <| c_sq fun k34 h34 => c_sq fun k36 h36 => c_rg <| r_mv rfl rfl <| r_neT rfl rfl rfl (by omega) <| r_nx h36 <| c_cT rfl <| c_sq fun k38 h38 => c_rg <| r_mv rfl rfl <| r_mv rfl rfl <| r_mv rfl rfl <| r_bk (.bool true) rfl rfl (fun _ => by kernel_rfl) rfl <| r_pT rfl rfl rfl <| r_mv rfl rfl <| r_mv rfl rfl <| r_mi rfl (fun _ => by kernel_rfl) rfl ?_; rotate_left)
      refine WX.pure (v := .bool true) rfl rfl (hs _ (EcR.own2 L)) rfl rfl ?_
      (refine r_pT rfl rfl rfl <| r_as rfl rfl <| r_nx h38 <| c_rt <| WE.then_r ?_; rotate_left)
      exact WE.ret1 () rfl rfl rfl trivial Mem.drop
  · (refine c_sq fun k10 h10 => c_rg <| r_as rfl rfl <| r_nx h10 <| c_sq fun k12 h12 => c_rg ?_; rotate_left)
    refine WX.pure rfl rfl (awake6_spec _ _) rfl rfl ?_
    (refine r_as rfl rfl <| r_nx h12 <| c_sq fun k14 h14 => c_sq fun k16 h16 => c_rg <| r_mv rfl rfl <| r_ls Tryd.underlying22 rfl rfl <| r_gtT rfl rfl rfl (by omega) <| r_nx h16 <| c_cT rfl <| c_sq fun k18 h18 => c_rg <| r_mv rfl rfl <| r_as rfl rfl <| r_nx h18 <| c_rt <| WE.then_r ?_; rotate_left)
    exact WE.ret1 () rfl rfl rfl trivial Mem.drop
end Go.Proofs.YthnabbidlmihbaaDoor
