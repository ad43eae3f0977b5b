/- For every slice of runes, gatepostlaw05.FoldOnce returns true, and its argument reads as it did. Conditions: none beyond those of the given statement. -/
import Derived.Test.YtbcceecocjpnpaaRow
import Derived.Test.YtbcceecocjpnpaaFoldOnce
namespace Go.Proofs.Ytbcceecocjpnpaa
open Go.ChangeShapes Go.WideShapes Go.ChangeAt Go.RowKit Go.Gp

theorem own_foldOnce : ownKnob Try.prog.godebug = none := by kernel_rfl
theorem laid_foldOnce : laidOutB Try.prog = true := by kernel_rfl
theorem func_foldOnce : Try.prog.funcs[4]? = some Try.f4 := rfl

set_option maxRecDepth 100000 in
theorem foldOnce_lifted (os : Os) (started : os.Started) (H : Type) (enc : TypeId × Value → H) :
    ReturnsInHanded {} Try.checked os 4 .any (Rows.foldOnceSpec.pre6 enc Try.prog Try.f4 Rows.foldOnceRow.domain false) (Rows.foldOnceSpec.post enc Try.prog Try.f4 false true false false) := by
  refine returnsInHanded_of_change (C := Try.checked) own_foldOnce started (by kernel_rfl) func_foldOnce
    (ChangeSpec.witness6 (enc := enc) (C := Try.checked) false ⟨#[], #[.slice none 0 0], []⟩ 8 (by kernel_rfl) (by kernel_rfl) (by kernel_rfl) (by kernel_rfl)) ?_
  intro W base args ds gs before hval0 hW hcnd _
  have hval1 : ∀ (j : Nat) t v, Try.f4.params[j]? = some t → args[j]? = some v → Value.okWide Try.prog W .any base t v := hval0
  have hval : ∀ (j : Nat) t v, Try.f4.params[j]? = some t → args[j]? = some v → Value.okWide Try.prog W .any 0 t v := hval1
  have hW' := hW
  obtain ⟨p, q, hA0, hV, rfl, hfz, hnd⟩ := hW
  have hA : DataW.TrodAll enc Try.prog W 0 (fun _ => true) true [23] args.toList ds p := hA0
  obtain ⟨v0, d0, rfl, rfl, h0⟩ := trodAll_one hA
  obtain ⟨rfl, rfl⟩ := trodVars_none hV
  obtain ⟨A0, c0, a0, rfl, hR0, ha0, hc0, hm0⟩ := open_runes Try.underlying23 Try.underlying21 (by kernel_rfl) (hval 0 23 v0 rfl rfl) h0
  refine ((foldOnce_spec A0 c0 a0 ha0 W [] hR0).calls).mono fun e W' hh => ?_
  obtain ⟨he, hb⟩ := hh
  exact ⟨_, he, post_true laid_foldOnce (by kernel_rfl) rfl rfl rfl hW' hb rfl rfl rfl⟩

theorem foldOnce_holds : Rows.FoldOnceSaid :=
  OpenClaim.holds_of_wide 4 Try.f4 rfl rfl rfl rfl rfl rfl rfl ⟨rfl, rfl, rfl, rfl, rfl⟩ rfl rfl rfl rfl rfl (by kernel_rfl) func_foldOnce (by kernel_rfl)
    (of_decide_eq_true (by kernel_rfl)) (by unfold Func.isWrapper; first | (rw [if_pos (by decide +kernel)]; kernel_rfl) | (rw [if_neg (by decide +kernel)]; exact ⟨rfl, rfl⟩))
    (fun os started H enc _ => foldOnce_lifted os started H enc)
end Go.Proofs.Ytbcceecocjpnpaa
