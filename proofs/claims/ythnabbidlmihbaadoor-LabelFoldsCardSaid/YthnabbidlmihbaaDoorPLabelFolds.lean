/- For every slice of runes, gatepostlaw06.LabelFolds returns true, and its argument reads as it did. Condition: as the given card has it: the variable errors.errorType is tied to the program's text. -/
import Derived.Test.YthnabbidlmihbaaDoorRow
import Derived.Test.YthnabbidlmihbaaDoorLabelFolds
import Derived.Test.YthnabbidlmihbaaDoorCards
import Derived.Test.YthnabbidlmihbaaDoorTie
import Derived.LaidLaws
import Derived.LaidHandle
import Derived.Stop.Joined
import Derived.SevenTiedAt
namespace Go.Proofs.YthnabbidlmihbaaDoor
open Go.ChangeShapes Go.WideShapes Go.ChangeAt Go.RowKit Go.Gp

theorem own_labelFolds : ownKnob Tryd.prog.godebug = none := by kernel_rfl
theorem laid_labelFolds : laidOutB Tryd.prog = true := by kernel_rfl
theorem func_labelFolds : Tryd.prog.funcs[3]? = some Tryd.f3 := rfl
theorem et_labelFolds : Tryd.prog.globalNamed "errors.errorType" = some 0 := by kernel_rfl
theorem rt_labelFolds : (Tryd.prog.cutTypes.find? (·.1 == "internal/reflectlite.rtype")).map (·.2) = some 70 := by kernel_rfl
theorem oneRow_labelFolds : ((List.range Tryd.prog.types.size).filter fun t => Tryd.prog.rowNamed t [101, 114, 114, 111, 114]) = [27] := by kernel_rfl

/-- What the condition gives the walk: the variable's one cell. -/
theorem handle_labelFolds {W : World} (h : laidMetH Tryd.prog Rows.labelFoldsRow.laid W) : W.cell? ⟨0, 0, none⟩ = some errT := by
  have h' : laidMet Tryd.prog [] W ∧ handlesMet Tryd.prog Rows.labelFoldsRow.laid W := h
  obtain ⟨name, u, ty, e1, e2, e3, e4, e5⟩ := h'.2 _ (List.mem_singleton.2 rfl)
  have en : name = [101, 114, 114, 111, 114] := (Option.some.inj e1).symm
  subst en
  obtain rfl := Option.some.inj (rt_labelFolds.symm.trans e2)
  have hm : ty ∈ (List.range Tryd.prog.types.size).filter fun t => Tryd.prog.rowNamed t [101, 114, 114, 111, 114] := List.mem_filter.2 ⟨List.mem_range.2 e3, e4⟩
  rw [oneRow_labelFolds] at hm
  obtain rfl := List.mem_singleton.1 hm
  have hh : typeHandle Tryd.prog 27 = hdl 27 := by kernel_rfl
  rw [hh] at e5
  simpa using World.var?_cell et_labelFolds e5 0
/-- A world that meets the condition. -/
noncomputable def laidWorld (os : Os) : World :=
  let w0 := World.holding Tryd.prog os ⟨#[], #[], []⟩
  { w0 with heap := w0.heap.modify 0 fun
      | .cells _ t frozen => .cells #[errT] t frozen
      | o => o }
theorem laidWorld_met (os : Os) (args : Array Value) : laidMetH Tryd.prog Rows.labelFoldsRow.laid ((laidWorld os).forCall (fun _ _ => 0) ⟨#[], args, []⟩).memory :=
  laidMetH_of_parts (laidMet_nil _ _) (by kernel_rfl)

set_option maxRecDepth 100000 in
theorem labelFolds_lifted (os : Os) (started : os.Started) (H : Type) (enc : TypeId × Value → H) :
    ReturnsInHanded {} Tryd.checked os 3 .any (fun w args => (Rows.labelFoldsSpec.pre enc Tryd.prog Tryd.f3 [] false w args ∧ laidMetH Tryd.prog Rows.labelFoldsRow.laid w) ∧ sizedMet enc Tryd.prog Tryd.f3 (OpenSpec.ofChange Rows.labelFoldsSpec) false w args)
      (Rows.labelFoldsSpec.post enc Tryd.prog Tryd.f3 false true false false) := by
  refine returnsInHanded_of_change_and (C := Tryd.checked) (X := fun w _ => laidMetH Tryd.prog Rows.labelFoldsRow.laid w) (fun _ _ _ hh h => h.of_heap hh) own_labelFolds started (by kernel_rfl) func_labelFolds
    (ChangeSpec.witness_at (enc := enc) (C := Tryd.checked) (os := os) (X := fun w _ => laidMetH Tryd.prog Rows.labelFoldsRow.laid w) false (laidWorld os) #[.slice none 0 0] 8 rfl (by kernel_rfl) (by kernel_rfl) (by kernel_rfl) (by kernel_rfl) (by kernel_rfl) (laidWorld_met os _)) ?_
  intro W base args ds gs before hval0 hW _ _ hL _
  have hval1 : ∀ (j : Nat) t v, Tryd.f3.params[j]? = some t → args[j]? = some v → Value.okWide Tryd.prog W .any base t v := hval0
  have hval : ∀ (j : Nat) t v, Tryd.f3.params[j]? = some t → args[j]? = some v → Value.okWide Tryd.prog W .any 0 t v := hval1
  have hW' := hW
  obtain ⟨p, q, hA0, hV, rfl, hfz, hnd⟩ := hW
  have hA : DataW.TrodAll enc Tryd.prog W 0 (fun _ => true) true [22] args.toList ds p := hA0
  obtain ⟨v0, d0, rfl, rfl, h0⟩ := trodAll_one hA
  obtain ⟨rfl, rfl⟩ := trodVars_none hV
  obtain ⟨A0, c0, a0, rfl, hR0, ha0, hc0, hm0⟩ := open_runes Tryd.underlying22 Tryd.underlying21 (by kernel_rfl) (hval 0 22 v0 rfl rfl) h0
  have hg := handle_labelFolds hL
  refine ((labelFolds_spec A0 c0 a0 ha0 W [] hR0 (rd_of_cell hg)).calls).mono fun e W' hh => ?_
  obtain ⟨he, hb⟩ := hh
  exact ⟨_, he, post_true laid_labelFolds (by kernel_rfl) rfl rfl rfl hW' hb rfl rfl rfl⟩

theorem labelFolds_holds : Rows.LabelFoldsSaid :=
  OpenClaim.holds_of_wide 3 Tryd.f3 rfl rfl rfl rfl rfl rfl rfl ⟨rfl, rfl, rfl, rfl, rfl⟩ rfl rfl rfl rfl rfl (by kernel_rfl) func_labelFolds (by kernel_rfl)
    (of_decide_eq_true (by kernel_rfl)) (by unfold Func.isWrapper; first | (rw [if_pos (by decide +kernel)]; kernel_rfl) | (rw [if_neg (by decide +kernel)]; exact ⟨rfl, rfl⟩))
    (fun os started H enc _ => labelFolds_lifted os started H enc)

/-- THE TIED CARD. -/
theorem labelFolds_card : Rows.LabelFoldsCardSaid :=
  Claim7.holds_tied_plain_at .later [] [.handle] true Rows.labelFoldsCard.stood.harness true
    labelFolds_holds (fun _ h => by cases h) (by kernel_rfl) (fun _ h => by cases h) labelFolds_row_tie rfl ⟨rfl, rfl⟩ (by kernel_rfl) rfl
    (fun f fn hf hfn => by
      obtain rfl : f = 3 := Option.some.inj ((show Tryd.prog.funcNamed "gatepost/gatepostlaw06.LabelFolds" = some 3 by kernel_rfl).symm.trans hf) |>.symm
      obtain rfl : fn = Tryd.f3 := (Option.some.inj (func_labelFolds.symm.trans hfn)).symm
      exact ⟨by kernel_rfl, fun j t ht => by
        have ht' : ([22] : List TypeId)[j]? = some t := by
          have h2 : Tryd.f3.params.toList[j]? = some t := by simpa using ht
          exact h2
        have h3 : t = 22 := by
          have := List.mem_of_getElem? ht'
          simpa using this
        subst h3
        exact (show Tryd.prog.wantsStandIn 22 = false by kernel_rfl)⟩)
    (by kernel_rfl)
end Go.Proofs.YthnabbidlmihbaaDoor
