/- For every slice of runes, gatepostlaw06.LabelOnce returns true, and its argument reads as it did. Conditions: none beyond those of the given statement. -/
import Derived.Test.YthnabbidlmihbaaRow
import Derived.Test.YthnabbidlmihbaaLabelOnce
namespace Go.Proofs.Ythnabbidlmihbaa
open Go.ChangeShapes Go.WideShapes Go.ChangeAt Go.RowKit Go.Gp

theorem own_labelOnce : ownKnob Try.prog.godebug = none := by kernel_rfl
theorem laid_labelOnce : laidOutB Try.prog = true := by kernel_rfl
theorem func_labelOnce : Try.prog.funcs[3]? = some Try.f3 := rfl

set_option maxRecDepth 100000 in
theorem labelOnce_lifted (os : Os) (started : os.Started) (H : Type) (enc : TypeId × Value → H) :
    ReturnsInHanded {} Try.checked os 3 .any (Rows.labelOnceSpec.pre6 enc Try.prog Try.f3 Rows.labelOnceRow.domain false) (Rows.labelOnceSpec.post enc Try.prog Try.f3 false true false false) := by
  refine returnsInHanded_of_change (C := Try.checked) own_labelOnce started (by kernel_rfl) func_labelOnce
    (ChangeSpec.witness6 (enc := enc) (C := Try.checked) false ⟨#[], #[.slice none 0 0], []⟩ 8 (by kernel_rfl) (by kernel_rfl) (by kernel_rfl) (by kernel_rfl)) ?_
  intro W base args ds gs before hval0 hW hcnd _
  have hval1 : ∀ (j : Nat) t v, Try.f3.params[j]? = some t → args[j]? = some v → Value.okWide Try.prog W .any base t v := hval0
  have hval : ∀ (j : Nat) t v, Try.f3.params[j]? = some t → args[j]? = some v → Value.okWide Try.prog W .any 0 t v := hval1
  have hW' := hW
  obtain ⟨p, q, hA0, hV, rfl, hfz, hnd⟩ := hW
  have hA : DataW.TrodAll enc Try.prog W 0 (fun _ => true) true [22] args.toList ds p := hA0
  obtain ⟨v0, d0, rfl, rfl, h0⟩ := trodAll_one hA
  obtain ⟨rfl, rfl⟩ := trodVars_none hV
  obtain ⟨A0, c0, a0, rfl, hR0, ha0, hc0, hm0⟩ := open_runes Try.underlying22 Try.underlying21 (by kernel_rfl) (hval 0 22 v0 rfl rfl) h0
  refine ((labelOnce_spec A0 c0 a0 ha0 W [] hR0).calls).mono fun e W' hh => ?_
  obtain ⟨he, hb⟩ := hh
  exact ⟨_, he, post_true laid_labelOnce (by kernel_rfl) rfl rfl rfl hW' hb rfl rfl rfl⟩

theorem labelOnce_holds : Rows.LabelOnceSaid :=
  OpenClaim.holds_of_wide 3 Try.f3 rfl rfl rfl rfl rfl rfl rfl ⟨rfl, rfl, rfl, rfl, rfl⟩ rfl rfl rfl rfl rfl (by kernel_rfl) func_labelOnce (by kernel_rfl)
    (of_decide_eq_true (by kernel_rfl)) (by unfold Func.isWrapper; first | (rw [if_pos (by decide +kernel)]; kernel_rfl) | (rw [if_neg (by decide +kernel)]; exact ⟨rfl, rfl⟩))
    (fun os started H enc _ => labelOnce_lifted os started H enc)
end Go.Proofs.Ythnabbidlmihbaa
