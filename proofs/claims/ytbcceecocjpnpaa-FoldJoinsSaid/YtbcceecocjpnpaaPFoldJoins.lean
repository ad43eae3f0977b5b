/- For every two slices of runes, gatepostlaw05.FoldJoins returns true, and its arguments read as they did. Conditions: none beyond those of the given statement. -/
import Derived.Test.YtbcceecocjpnpaaRow
import Derived.Test.YtbcceecocjpnpaaFoldJoins
namespace Go.Proofs.Ytbcceecocjpnpaa
open Go.ChangeShapes Go.WideShapes Go.ChangeAt Go.RowKit Go.Gp

theorem own_foldJoins : ownKnob Try.prog.godebug = none := by kernel_rfl
theorem laid_foldJoins : laidOutB Try.prog = true := by kernel_rfl
theorem func_foldJoins : Try.prog.funcs[6]? = some Try.f6 := rfl

set_option maxRecDepth 100000 in
theorem foldJoins_lifted (os : Os) (started : os.Started) (H : Type) (enc : TypeId × Value → H) :
    ReturnsInHanded {} Try.checked os 6 .any (Rows.foldJoinsSpec.pre6 enc Try.prog Try.f6 Rows.foldJoinsRow.domain false) (Rows.foldJoinsSpec.post enc Try.prog Try.f6 false true false false) := by
  refine returnsInHanded_of_change (C := Try.checked) own_foldJoins started (by kernel_rfl) func_foldJoins
    (ChangeSpec.witness6 (enc := enc) (C := Try.checked) false ⟨#[], #[.slice none 0 0, .slice none 0 0], []⟩ 8 (by kernel_rfl) (by kernel_rfl) (by kernel_rfl) (by kernel_rfl)) ?_
  intro W base args ds gs before hval0 hW hcnd _
  have hval1 : ∀ (j : Nat) t v, Try.f6.params[j]? = some t → args[j]? = some v → Value.okWide Try.prog W .any base t v := hval0
  have hval : ∀ (j : Nat) t v, Try.f6.params[j]? = some t → args[j]? = some v → Value.okWide Try.prog W .any 0 t v := hval1
  have hW' := hW
  obtain ⟨p, q, hA0, hV, rfl, hfz, hnd⟩ := hW
  have hA : DataW.TrodAll enc Try.prog W 0 (fun _ => true) true [23, 23] args.toList ds p := hA0
  obtain ⟨v0, v1, d0, d1, p0, p1, rfl, rfl, rfl, h0, h1⟩ := trodAll_two hA
  obtain ⟨rfl, rfl⟩ := trodVars_none hV
  obtain ⟨A0, c0, a0, rfl, hR0, ha0, hc0, hm0⟩ := open_runes Try.underlying23 Try.underlying21 (by kernel_rfl) (hval 0 23 v0 rfl rfl) h0
  obtain ⟨A1, c1, a1, rfl, hR1, ha1, hc1, hm1⟩ := open_runes Try.underlying23 Try.underlying21 (by kernel_rfl) (hval 1 23 v1 rfl rfl) h1
  refine ((foldJoins_spec A0 A1 c0 c1 a0 a1 ha0 ha1 W [] hR0 hR1).calls).mono fun e W' hh => ?_
  obtain ⟨he, hb⟩ := hh
  exact ⟨_, he, post_true laid_foldJoins (by kernel_rfl) rfl rfl rfl hW' hb rfl rfl rfl⟩

theorem foldJoins_holds : Rows.FoldJoinsSaid :=
  OpenClaim.holds_of_wide 6 Try.f6 rfl rfl rfl rfl rfl rfl rfl ⟨rfl, rfl, rfl, rfl, rfl⟩ rfl rfl rfl rfl rfl (by kernel_rfl) func_foldJoins (by kernel_rfl)
    (of_decide_eq_true (by kernel_rfl)) (by unfold Func.isWrapper; first | (rw [if_pos (by decide +kernel)]; kernel_rfl) | (rw [if_neg (by decide +kernel)]; exact ⟨rfl, rfl⟩))
    (fun os started H enc _ => foldJoins_lifted os started H enc)
end Go.Proofs.Ytbcceecocjpnpaa
