/- For every string, gatepostlaw05.FoldCapitals returns true, and its argument reads as it did. Conditions: none beyond those of the given statement. -/
import Derived.Test.YtbcceecocjpnpaaRow
import Derived.Test.YtbcceecocjpnpaaFoldCapitals
namespace Go.Proofs.Ytbcceecocjpnpaa
open Go.ChangeShapes Go.WideShapes Go.ChangeAt Go.RowKit Go.Gp

theorem own_foldCapitals : ownKnob Try.prog.godebug = none := by kernel_rfl
theorem laid_foldCapitals : laidOutB Try.prog = true := by kernel_rfl
theorem func_foldCapitals : Try.prog.funcs[5]? = some Try.f5 := rfl

set_option maxRecDepth 100000 in
theorem foldCapitals_lifted (os : Os) (started : os.Started) (H : Type) (enc : TypeId × Value → H) :
    ReturnsInHanded {} Try.checked os 5 .any (Rows.foldCapitalsSpec.pre6 enc Try.prog Try.f5 Rows.foldCapitalsRow.domain false) (Rows.foldCapitalsSpec.post enc Try.prog Try.f5 false true false false) := by
  refine returnsInHanded_of_change (C := Try.checked) own_foldCapitals started (by kernel_rfl) func_foldCapitals
    (ChangeSpec.witness6 (enc := enc) (C := Try.checked) false ⟨#[], #[.string ⟨#[]⟩], []⟩ 8 (by kernel_rfl) (by kernel_rfl) (by kernel_rfl) (by kernel_rfl)) ?_
  intro W base args ds gs before hval0 hW hcnd _
  have hval1 : ∀ (j : Nat) t v, Try.f5.params[j]? = some t → args[j]? = some v → Value.okWide Try.prog W .any base t v := hval0
  have hval : ∀ (j : Nat) t v, Try.f5.params[j]? = some t → args[j]? = some v → Value.okWide Try.prog W .any 0 t v := hval1
  have hW' := hW
  obtain ⟨p, q, hA0, hV, rfl, hfz, hnd⟩ := hW
  have hA : DataW.TrodAll enc Try.prog W 0 (fun _ => true) true [9] args.toList ds p := hA0
  obtain ⟨v0, d0, rfl, rfl, h0⟩ := trodAll_one hA
  obtain ⟨rfl, rfl⟩ := trodVars_none hV
  obtain ⟨a0, rfl, rfl, rfl, ha0⟩ := Go.ChangeMaps.open_string Try.underlying9 (hval 0 9 v0 rfl rfl) h0
  refine ((foldCapitals_spec a0 W []).calls).mono fun e W' hh => ?_
  obtain ⟨he, hb⟩ := hh
  exact ⟨_, he, post_true laid_foldCapitals (by kernel_rfl) rfl rfl rfl hW' hb rfl rfl rfl⟩

theorem foldCapitals_holds : Rows.FoldCapitalsSaid :=
  OpenClaim.holds_of_wide 5 Try.f5 rfl rfl rfl rfl rfl rfl rfl ⟨rfl, rfl, rfl, rfl, rfl⟩ rfl rfl rfl rfl rfl (by kernel_rfl) func_foldCapitals (by kernel_rfl)
    (of_decide_eq_true (by kernel_rfl)) (by unfold Func.isWrapper; first | (rw [if_pos (by decide +kernel)]; kernel_rfl) | (rw [if_neg (by decide +kernel)]; exact ⟨rfl, rfl⟩))
    (fun os started H enc _ => foldCapitals_lifted os started H enc)
end Go.Proofs.Ytbcceecocjpnpaa
