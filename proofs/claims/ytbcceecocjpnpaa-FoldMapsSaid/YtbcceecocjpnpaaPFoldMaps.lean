/- For every number c of 32 bits, gatepostlaw05.FoldMaps(c) returns true, and its argument reads as it did. Conditions: none beyond those of the given statement. -/
import Derived.Test.YtbcceecocjpnpaaRow
import Derived.Test.YtbcceecocjpnpaaFoldMaps
namespace Go.Proofs.Ytbcceecocjpnpaa
open Go.ChangeShapes Go.WideShapes Go.ChangeAt Go.RowKit Go.Gp

theorem own1 : ownKnob Try.prog.godebug = none := by kernel_rfl
theorem laid1 : laidOutB Try.prog = true := by kernel_rfl
theorem funcMaps : Try.prog.funcs[3]? = some Try.f3 := rfl

set_option maxRecDepth 100000 in
theorem foldMaps_lifted (os : Os) (started : os.Started) (H : Type) (enc : TypeId × Value → H) :
    ReturnsInHanded {} Try.checked os 3 .any (Rows.foldMapsSpec.pre6 enc Try.prog Try.f3 Rows.foldMapsRow.domain false) (Rows.foldMapsSpec.post enc Try.prog Try.f3 false true false false) := by
  refine returnsInHanded_of_change (C := Try.checked) own1 started (by kernel_rfl) funcMaps
    (ChangeSpec.witness6 (enc := enc) (C := Try.checked) false ⟨#[], #[.int .i32 0], []⟩ 8 (by kernel_rfl) (by kernel_rfl) (by kernel_rfl) (by kernel_rfl)) ?_
  intro W base args ds gs before hval0 hW hcnd _
  have hval : ∀ (j : Nat) t v, Try.f3.params[j]? = some t → args[j]? = some v → Value.okWide Try.prog W .any base t v := hval0
  have hW' := hW
  obtain ⟨p, q, hA0, hV, rfl, hfz, hnd⟩ := hW
  have hA : DataW.TrodAll enc Try.prog W 0 (fun _ => true) true [21] args.toList ds p := hA0
  obtain ⟨v0, d0, rfl, rfl, h0⟩ := trodAll_one hA
  obtain ⟨rfl, rfl⟩ := trodVars_none hV
  obtain ⟨a, rfl, rfl, rfl, wa⟩ := open_int Try.underlying21 (hval 0 21 v0 rfl rfl) h0
  have ha : -2147483648 ≤ a ∧ a ≤ 2147483647 := by simp [Lit.wf] at wa; exact wa
  refine ((foldMaps_spec a ha.1 ha.2 W []).calls).mono fun e W' hh => ?_
  obtain ⟨he, hb⟩ := hh
  exact ⟨_, he, post_true laid1 (by kernel_rfl) rfl rfl rfl hW' hb rfl rfl rfl⟩

theorem foldMaps_holds : Rows.FoldMapsSaid :=
  OpenClaim.holds_of_wide 3 Try.f3 rfl rfl rfl rfl rfl rfl rfl ⟨rfl, rfl, rfl, rfl, rfl⟩ rfl rfl rfl rfl rfl (by kernel_rfl) funcMaps (by kernel_rfl)
    (of_decide_eq_true (by kernel_rfl)) (by unfold Func.isWrapper; first | (rw [if_pos (by decide +kernel)]; kernel_rfl) | (rw [if_neg (by decide +kernel)]; exact ⟨rfl, rfl⟩))
    (fun os started H enc _ => foldMaps_lifted os started H enc)
end Go.Proofs.Ytbcceecocjpnpaa
