/- The contract of layer 5's 'awake'. -/
import Derived.Test.YtbcceecocjpnpaaDoorFold
namespace Go.Proofs.YtbcceecocjpnpaaDoor
open Go.RowKit Go.Gp

theorem R32.of_all {l : List Int} (h : l.all (fun c => decide (-2147483648 ≤ c) && decide (c ≤ 2147483647)) = true) : R32 l := by
  intro i hi
  have h2 := List.all_eq_true.1 h (l.getD i 0) (by simp [hi])
  simp only [Bool.and_eq_true, decide_eq_true_eq] at h2
  exact h2
set_option maxRecDepth 100000 in
theorem awake5_spec (w0 : World) (m0 : List Res) : PureC Tryd.prog 4 [] w0 m0 (.bool true) := by
  have e1 : compR (mapAll [65, 769, 65313, 173]) = [225, 97] := by decide +kernel
  refine Ct.of Tryd.func4 rfl (by kernel_rfl) rfl ?_
  (refine c_sq fun k4 h4 => c_rg <| r_as rfl rfl <| r_nx h4 <| c_sq fun k6 h6 => c_rg <| r_bo Tryd.underlying22 rfl (fun _ => by kernel_rfl) rfl rfl rfl (fun _ => ?_); rotate_left)
  rename_i b
  refine WX.call (m1 := []) (m2 := _) rfl rfl rfl (fold_ok (some ⟨b, 0, none⟩) 4 [65, 769, 65313, 173] (by simp) (R32.of_all rfl) (by decide +kernel) _ _ (Rd.own 0 rfl)) rfl rfl (fun p _ => ?_)
  rw [e1]
  (refine r_mv rfl rfl <| r_ex rfl rfl rfl <| r_ex rfl rfl rfl <| r_as rfl rfl <| r_as rfl rfl <| r_nx h6 <| c_sq fun k11 h11 => c_rg ?_; rotate_left)
  refine WX.call (m1 := []) (m2 := _) rfl rfl rfl (map_spec 128 (by omega) (by omega) _ _) rfl rfl (fun q _ => ?_)
  rw [show (mapP 128).2 = false by decide +kernel]
  (refine r_mv rfl rfl <| r_ex rfl rfl rfl <| r_ex rfl rfl rfl <| r_as rfl rfl <| r_as rfl rfl <| r_nx h11 <| c_sq fun k15 h15 => c_rg <| r_bo Tryd.underlying22 rfl (fun _ => by kernel_rfl) rfl rfl rfl (fun _ => ?_); rotate_left)
  rename_i b1
  refine WX.call (m1 := []) (m2 := _) rfl rfl rfl (fold_no (some ⟨b1, 0, none⟩) 1 [8192] (by simp) (R32.of_all rfl) (by decide +kernel) _ _ (Rd.own 0 rfl)) rfl rfl (fun b2 _ => ?_)
  have hs : ∀ mm, EcR w0 mm [(b2, sFold)] 2 → PureC Tryd.prog 12 [ecv [(b2, sFold)] 2, .iface 31 (.int .i64 2)] w0 mm (.bool true) := fun mm h => is_spec [(b2, sFold)] 2 2 w0 mm h
  simp only [ecv] at hs ⊢
  (refine r_mv rfl rfl <| r_ex rfl rfl rfl <| r_ex rfl rfl rfl <| r_as rfl rfl <| r_as rfl rfl <| r_nx h15 <| c_sq fun k21 h21 => c_rg <| r_mv rfl rfl <| r_bk (.bool true) rfl rfl (fun _ => by kernel_rfl) rfl <| r_mv rfl rfl <| r_mv rfl rfl <| r_ls Tryd.underlying22 rfl rfl ?_; rotate_left)
  refine r_bk (.bool true) rfl rfl (fun _ => by kernel_rfl) rfl ?_
  (refine r_pT rfl rfl rfl <| r_mv rfl rfl <| r_mv rfl rfl ?_; rotate_left)
  refine r_im (xs := [225, 97]) (f := (.int .i32 ·)) (Rd.own 3 rfl) rfl rfl rfl rfl rfl rfl (by decide) (by decide) ?_
  (rotate_left)
  refine r_li 0 (xs := [225, 97]) (Rd.own 3 rfl) rfl rfl rfl rfl (by decide) ?_
  (rotate_left)
  refine r_bk (.bool true) rfl rfl (fun _ => by kernel_rfl) rfl ?_
  (refine r_pT rfl rfl rfl <| r_mv rfl rfl <| r_mv rfl rfl ?_; rotate_left)
  refine r_im (xs := [225, 97]) (f := (.int .i32 ·)) (Rd.own 3 rfl) rfl rfl rfl rfl rfl rfl (by decide) (by decide) ?_
  (rotate_left)
  refine r_li 1 (xs := [225, 97]) (Rd.own 3 rfl) rfl rfl rfl rfl (by decide) ?_
  (rotate_left)
  refine r_bk (.bool true) rfl rfl (fun _ => by kernel_rfl) rfl ?_
  (refine r_pT rfl rfl rfl <| r_mv rfl rfl <| r_mv rfl rfl <| r_no rfl rfl rfl <| r_pT rfl rfl rfl <| r_mv rfl rfl <| r_mv rfl rfl <| r_bk (.bool true) rfl rfl (fun _ => by kernel_rfl) rfl <| r_pT rfl rfl rfl <| r_mv rfl rfl <| r_mv rfl rfl <| r_mi rfl (fun _ => by kernel_rfl) rfl ?_; rotate_left)
  refine WX.pure (v := .bool true) rfl rfl (hs _ ⟨Rd.blk 0 rfl, trivial⟩) rfl rfl ?_
  (refine r_pT rfl rfl rfl <| r_as rfl rfl <| r_nx h21 <| c_rt ?_; rotate_left)
  exact WE.ret1 () rfl rfl rfl trivial Mem.drop
end Go.Proofs.YtbcceecocjpnpaaDoor
