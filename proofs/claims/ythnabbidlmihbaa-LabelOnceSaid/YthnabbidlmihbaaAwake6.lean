/- The contract of layer 6's 'awake'. -/
import Derived.Test.YthnabbidlmihbaaLawAll
import Derived.Test.YthnabbidlmihbaaAwake5R
set_option linter.unusedVariables false
namespace Go.Proofs.Ythnabbidlmihbaa
open Go.RowKit Go.Gp

abbrev w6 : List Int := [66, 220, 67, 104, 101, 114, 12290, 120]
abbrev w6s : ByteArray := ⟨#[120, 110, 45, 45, 98, 99, 104, 101, 114, 45, 107, 118, 97, 46, 120]⟩
theorem allP_w6 : allP w6 = .ok w6s := by
  have h1 : okAll w6 = true := by decide +kernel
  have h2 : (partsS (splitP 46 (foldP w6))).map (joinP dotB) = some w6s := by decide +kernel
  unfold allP
  rw [if_neg (by rw [h1]; decide)]
  cases hp : partsS (splitP 46 (foldP w6)) with
  | none => rw [hp] at h2; cases h2
  | some ss =>
    rw [hp] at h2
    have e : joinP dotB ss = w6s := by simpa using h2
    simp only
    rw [e, if_neg (by decide)]
theorem allP_nil : allP [] = .error 3 := by
  have h2 : partsS (splitP 46 (foldP [])) = some [⟨#[]⟩] := by decide +kernel
  unfold allP
  rw [if_neg (by decide), h2]
  rfl
theorem oneP_769 : oneP [769] = none := by decide +kernel
theorem EcR.own2 {w0 : World} {r m0 : List Res} {n : Int} (L : List (Nat × ByteArray)) : EcR w0 ((ecm L n ++ r) ++ m0) L n := by
  rw [List.append_assoc]
  exact EcR.own L
theorem EcR.cons {w0 : World} {m : List Res} {n : Int} {L : List (Nat × ByteArray)} (h : EcR w0 m L n) (x : Res) : EcR w0 (x :: m) L n := EcR.mono (fun _ hw => Mem.tail hw) h
theorem EcR.skip {w0 : World} {a r m0 : List Res} {n : Int} {L : List (Nat × ByteArray)} (h : EcR w0 (r ++ m0) L n) : EcR w0 ((a ++ r) ++ m0) L n := by
  rw [List.append_assoc]
  exact h.app a
theorem Mem.comm {w0 : World} {a b m0 : List Res} : ∀ w, Mem w0 ((a ++ b) ++ m0) w → Mem w0 ((b ++ a) ++ m0) w := fun _ h => h.perm (List.perm_append_comm.append_right m0)
set_option maxRecDepth 100000 in
theorem awake6_spec (w0 : World) (m0 : List Res) : PureC Try.prog 4 [] w0 m0 (.bool true) := by
  refine Ct.of Try.func4 rfl (by kernel_rfl) rfl ?_
  (refine c_sq fun k3 h3 => c_rg <| r_as rfl rfl <| r_nx h3 <| c_sq fun k5 h5 => c_rg <| r_bo Try.underlying22 rfl (fun _ => by kernel_rfl) rfl rfl rfl (fun _ => ?_); rotate_left)
  rename_i b
  refine WX.call (m1 := []) (m2 := _) rfl rfl rfl (all_spec (some ⟨b, 0, none⟩) 8 w6 (by decide) (R32.of_all rfl) (fun _ => short_ok (by decide +kernel)) _ _ (Rd.own 0 rfl)) rfl rfl (fun L _ => ?_)
  rw [allP_w6]
  simp only [allV, allM, List.nil_append]
  (refine r_mv rfl rfl <| r_ex rfl rfl rfl <| r_ex rfl rfl rfl <| r_as rfl rfl <| r_as rfl rfl <| r_nx h5 <| c_sq fun k10 h10 => c_rg ?_; rotate_left)
  refine WX.call (m1 := []) (m2 := _) rfl rfl rfl (all_spec none 0 [] (by decide) (R32.of_all rfl) (fun _ => short_ok (by decide +kernel)) _ _ (Rd.nil _)) rfl rfl (fun L2 _ => ?_)
  rw [allP_nil]
  simp only [allV, allM]
  have hs2 : ∀ mm, EcR w0 mm L2 3 → PureC Try.prog 8 [ecv L2 3, .iface 31 (.int .i64 3)] w0 mm (.bool true) := fun mm h => is_spec L2 3 3 w0 mm h
  obtain ⟨T2, v2, he2⟩ := ecv_form L2 3
  rw [he2] at hs2 ⊢
  (refine r_mv rfl rfl <| r_ex rfl rfl rfl <| r_ex rfl rfl rfl <| r_as rfl rfl <| r_as rfl rfl <| r_nx h10 <| c_sq fun k19 h19 => c_rg <| r_bo Try.underlying22 rfl (fun _ => by kernel_rfl) rfl rfl rfl (fun _ => ?_); rotate_left)
  rename_i b3
  refine WX.call (m1 := []) (m2 := _) rfl rfl rfl (one_spec (some ⟨b3, 0, none⟩) 1 [769] (by decide) _ _ (Rd.own 0 rfl)) rfl rfl (fun b4 _ => ?_)
  rw [oneP_769]
  simp only [oneV, oneM]
  have hs3 : ∀ mm, EcR w0 mm [(b4, sLabel)] 2 → PureC Try.prog 8 [ecv [(b4, sLabel)] 2, .iface 31 (.int .i64 2)] w0 mm (.bool true) := fun mm h => is_spec [(b4, sLabel)] 2 2 w0 mm h
  simp only [ecv, ecm] at hs3 ⊢
  (refine r_mv rfl rfl <| r_ex rfl rfl rfl <| r_ex rfl rfl rfl <| r_as rfl rfl <| r_as rfl rfl <| r_nx h19 <| c_sq fun k25 h25 => c_rg <| r_mv rfl rfl ?_; rotate_left)
  refine r_bk (.bool true) rfl rfl (fun _ => by kernel_rfl) rfl ?_
  (refine r_mv rfl rfl <| r_mv rfl rfl <| r_bk (.bool true) rfl rfl (fun _ => by kernel_rfl) rfl <| r_pT rfl rfl rfl <| r_mv rfl rfl <| r_mv rfl rfl <| r_bk (.bool true) rfl rfl (fun _ => by kernel_rfl) rfl <| r_pT rfl rfl rfl <| r_mv rfl rfl <| r_mv rfl rfl <| r_mi rfl (fun _ => by kernel_rfl) rfl ?_; rotate_left)
  refine WX.pure (v := .bool true) rfl rfl (hs2 _ (((EcR.own2 L2).cons _).cons _)) rfl rfl ?_
  (refine r_pT rfl rfl rfl <| r_mv rfl rfl <| r_mv rfl rfl <| r_bk (.bool true) rfl rfl (fun _ => by kernel_rfl) rfl <| r_pT rfl rfl rfl <| r_mv rfl rfl <| r_mv rfl rfl <| r_mi rfl (fun _ => by kernel_rfl) rfl ?_; rotate_left)
  refine WX.pure (v := .bool true) rfl rfl (hs3 _ ⟨Rd.blk 0 rfl, trivial⟩) rfl rfl ?_
  (refine r_pT rfl rfl rfl <| r_as rfl rfl <| r_nx h25 <| c_rt ?_; rotate_left)
  exact WE.ret1 () rfl rfl rfl trivial Mem.drop
end Go.Proofs.Ythnabbidlmihbaa
