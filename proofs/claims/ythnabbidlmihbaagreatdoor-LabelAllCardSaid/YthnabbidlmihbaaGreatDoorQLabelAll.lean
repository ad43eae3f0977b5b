/- For every slice of runes, gatepostlaw06.LabelAll returns true, and its argument reads as it did. Condition: as the given card has it: the variable errors.errorType is tied to the program's text. -/
import Derived.Test.YthnabbidlmihbaaGreatDoorCards
import Derived.Test.YthnabbidlmihbaaGreatDoorTie
import Derived.LaidLaws
import Derived.LaidHandle
import Derived.Stop.Joined
import Derived.SevenTiedAt
import Derived.Test.YthnabbidlmihbaaGreatDoorM3
/- The law LabelAll: the walk. -/
set_option linter.unusedVariables false
set_option linter.unusedSimpArgs false
namespace Go.Proofs.YthnabbidlmihbaaGreatDoor
open Go.RowKit Go.Gp

theorem allR_eq (r : Except Int ByteArray) : allR r = .tuple #[.string (sOf r), .int .i64 (codeOf r)] := by cases r <;> rfl
set_option maxRecDepth 100000 in
theorem labelAll_spec (A : Option Addr) (c : Nat) (l : List Int) (hl : ∀ n ∈ l, -2147483648 ≤ n ∧ n ≤ 2147483647) (w0 : World) (m0 : List Res) (hA : Rd w0 m0 A (runes l)) (hE : Rd w0 m0 (some ⟨0, 0, none⟩) [errT]) :
    PureC Tryz.prog 4 [.slice A l.length c] w0 m0 (.bool true) := by
  refine Ct.of Tryz.func4 rfl (by kernel_rfl) rfl ?_
  by_cases hn : l.length ≤ 60
  · have hF := foldP_len l
    (refine c_sq fun k11 h11 => c_rg <| r_as rfl rfl <| r_nx h11 <| c_sq fun k13 h13 => c_rg ?_; rotate_left)
    refine WX.pure rfl rfl (awake6_spec _ _) rfl rfl ?_
    (refine r_as rfl rfl <| r_nx h13 <| c_sq fun k15 h15 => c_sq fun k17 h17 => c_rg <| r_mv rfl rfl <| r_ls Tryz.underlying22 rfl rfl <| r_gtF rfl rfl rfl (by omega) <| r_nx h17 <| c_cF rfl <| c_sk <| WE.then_n h15 <| c_sq fun k19 h19 => c_rg <| r_mv rfl rfl ?_; rotate_left)
    refine WX.call (m1 := []) (m2 := _) rfl rfl rfl (all_spec A c l (by omega) (R32.of_mem hl) (fun _ => short_ok (by omega)) _ _ (hA.app _)) rfl rfl (fun L _ => ?_)
    rw [allV_eq]
    (refine r_mv rfl rfl <| r_ex rfl rfl rfl <| r_ex rfl rfl rfl <| r_as rfl rfl <| r_as rfl rfl <| r_nx h19 <| c_sq fun k23 h23 => c_rg <| r_mv rfl rfl ?_; rotate_left)
    refine WX.pure rfl rfl (rall_spec A c l (by omega) hl (fun _ => short_ok (by omega)) _ _ (hA.app _)) rfl rfl ?_
    rw [allR_eq]
    have hcd : -2147483648 ≤ codeOf (allP l) ∧ codeOf (allP l) ≤ 2147483647 := codeOf_bd l
    have hc := codeE_spec (allP l) L w0 ((allM (allP l) L ++ []) ++ m0) (ErR.own2 _ L) (hE.app _)
    generalize allP l = r at hc hcd ⊢
    (refine r_mv rfl rfl <| r_ex rfl rfl rfl <| r_ex rfl rfl rfl <| r_as rfl rfl <| r_as rfl rfl <| r_nx h23 <| c_sq fun k28 h28 => c_rg <| r_mv rfl rfl <| r_mv rfl rfl <| r_mv rfl rfl <| r_mv rfl rfl ?_; rotate_left)
    refine r_seq rfl rfl (fun _ => rfl) rfl ?_
    rw [decide_eq_true rfl]
    (refine r_pT rfl rfl rfl <| r_mv rfl rfl <| r_mv rfl rfl ?_; rotate_left)
    refine WX.pure rfl rfl hc rfl rfl ?_
    (refine r_mv rfl rfl <| r_eqT rfl rfl rfl (by omega) <| r_pT rfl rfl rfl <| r_as rfl rfl <| r_nx h28 <| c_rt ?_; rotate_left)
    exact WE.ret1 () rfl rfl rfl trivial Mem.drop
  · (refine c_sq fun k10 h10 => c_rg <| r_as rfl rfl <| r_nx h10 <| c_sq fun k12 h12 => c_rg ?_; rotate_left)
    refine WX.pure rfl rfl (awake6_spec _ _) rfl rfl ?_
    (refine r_as rfl rfl <| r_nx h12 <| c_sq fun k14 h14 => c_sq fun k16 h16 => c_rg <| r_mv rfl rfl <| r_ls Tryz.underlying22 rfl rfl <| r_gtT rfl rfl rfl (by omega) <| r_nx h16 <| c_cT rfl <| c_sq fun k18 h18 => c_rg <| r_mv rfl rfl <| r_as rfl rfl <| r_nx h18 <| c_rt <| WE.then_r ?_; rotate_left)
    exact WE.ret1 () rfl rfl rfl trivial Mem.drop
end Go.Proofs.YthnabbidlmihbaaGreatDoor

/- For every slice of runes, gatepostlaw06.LabelAll returns true, and its argument reads as it did. Condition: as the given card has it: the variable errors.errorType is tied to the program's text. -/
namespace Go.Proofs.YthnabbidlmihbaaGreatDoor
open Go.ChangeShapes Go.WideShapes Go.ChangeAt Go.RowKit Go.Gp

theorem own_labelAll : ownKnob Tryz.prog.godebug = none := by kernel_rfl
theorem laid_labelAll : laidOutB Tryz.prog = true := by kernel_rfl
set_option maxRecDepth 1000000 in
theorem func_labelAll : Tryz.prog.funcs[4]? = some Tryz.f4 := rfl
theorem et_labelAll : Tryz.prog.globalNamed "errors.errorType" = some 0 := by kernel_rfl
theorem rt_labelAll : (Tryz.prog.cutTypes.find? (·.1 == "internal/reflectlite.rtype")).map (·.2) = some 99 := by kernel_rfl
theorem oneRow_labelAll : ((List.range Tryz.prog.types.size).filter fun t => Tryz.prog.rowNamed t [101, 114, 114, 111, 114]) = [25] := by kernel_rfl

/-- What the condition gives the walk: the variable's one cell. -/
theorem handle_labelAll {W : World} (h : laidMetH Tryz.prog Rows.labelAllRow.laid W) : W.cell? ⟨0, 0, none⟩ = some errT := by
  have h' : laidMet Tryz.prog [] W ∧ handlesMet Tryz.prog Rows.labelAllRow.laid W := h
  obtain ⟨name, u, ty, e1, e2, e3, e4, e5⟩ := h'.2 _ (List.mem_singleton.2 rfl)
  have en : name = [101, 114, 114, 111, 114] := (Option.some.inj e1).symm
  subst en
  obtain rfl := Option.some.inj (rt_labelAll.symm.trans e2)
  have hm : ty ∈ (List.range Tryz.prog.types.size).filter fun t => Tryz.prog.rowNamed t [101, 114, 114, 111, 114] := List.mem_filter.2 ⟨List.mem_range.2 e3, e4⟩
  rw [oneRow_labelAll] at hm
  obtain rfl := List.mem_singleton.1 hm
  have hh : typeHandle Tryz.prog 25 = hdl 25 := by kernel_rfl
  rw [hh] at e5
  simpa using World.var?_cell et_labelAll e5 0
/-- A world that meets the condition. -/
noncomputable def laidWorld (os : Os) : World :=
  let w0 := World.holding Tryz.prog os ⟨#[], #[], []⟩
  { w0 with heap := w0.heap.modify 0 fun
      | .cells _ t frozen => .cells #[errT] t frozen
      | o => o }
theorem laidWorld_met (os : Os) (args : Array Value) : laidMetH Tryz.prog Rows.labelAllRow.laid ((laidWorld os).forCall (fun _ _ => 0) ⟨#[], args, []⟩).memory :=
  laidMetH_of_parts (laidMet_nil _ _) (by kernel_rfl)

set_option maxRecDepth 100000 in
theorem labelAll_lifted (os : Os) (started : os.Started) (H : Type) (enc : TypeId × Value → H) :
    ReturnsInHanded {} Tryz.checked os 4 .any (fun w args => (Rows.labelAllSpec.pre enc Tryz.prog Tryz.f4 [] false w args ∧ laidMetH Tryz.prog Rows.labelAllRow.laid w) ∧ sizedMet enc Tryz.prog Tryz.f4 (OpenSpec.ofChange Rows.labelAllSpec) false w args)
      (Rows.labelAllSpec.post enc Tryz.prog Tryz.f4 false true false false) := by
  refine returnsInHanded_of_change_and (C := Tryz.checked) (X := fun w _ => laidMetH Tryz.prog Rows.labelAllRow.laid w) (fun _ _ _ hh h => h.of_heap hh) own_labelAll started (by kernel_rfl) func_labelAll
    (ChangeSpec.witness_at (enc := enc) (C := Tryz.checked) (os := os) (X := fun w _ => laidMetH Tryz.prog Rows.labelAllRow.laid w) false (laidWorld os) #[.slice none 0 0] 8 rfl (by kernel_rfl) (by kernel_rfl) (by kernel_rfl) (by kernel_rfl) (by kernel_rfl) (laidWorld_met os _)) ?_
  intro W base args ds gs before hval0 hW _ _ hL _
  have hval1 : ∀ (j : Nat) t v, Tryz.f4.params[j]? = some t → args[j]? = some v → Value.okWide Tryz.prog W .any base t v := hval0
  have hval : ∀ (j : Nat) t v, Tryz.f4.params[j]? = some t → args[j]? = some v → Value.okWide Tryz.prog W .any 0 t v := hval1
  have hW' := hW
  obtain ⟨p, q, hA0, hV, rfl, hfz, hnd⟩ := hW
  have hA : DataW.TrodAll enc Tryz.prog W 0 (fun _ => true) true [22] args.toList ds p := hA0
  obtain ⟨v0, d0, rfl, rfl, h0⟩ := trodAll_one hA
  obtain ⟨rfl, rfl⟩ := trodVars_none hV
  obtain ⟨A0, c0, a0, rfl, hR0, ha0, hc0, hm0⟩ := open_runes Tryz.underlying22 Tryz.underlying21 (by kernel_rfl) (hval 0 22 v0 rfl rfl) h0
  have hg := handle_labelAll hL
  refine ((labelAll_spec A0 c0 a0 ha0 W [] hR0 (rd_of_cell hg)).calls).mono fun e W' hh => ?_
  obtain ⟨he, hb⟩ := hh
  exact ⟨_, he, post_true laid_labelAll (by kernel_rfl) rfl rfl rfl hW' hb rfl rfl rfl⟩

theorem labelAll_holds : Rows.LabelAllSaid :=
  OpenClaim.holds_of_wide 4 Tryz.f4 rfl rfl rfl rfl rfl rfl rfl ⟨rfl, rfl, rfl, rfl, rfl⟩ rfl rfl rfl rfl rfl (by kernel_rfl) func_labelAll (by kernel_rfl)
    (of_decide_eq_true (by kernel_rfl)) (by unfold Func.isWrapper; first | (rw [if_pos (by decide +kernel)]; kernel_rfl) | (rw [if_neg (by decide +kernel)]; exact ⟨rfl, rfl⟩))
    (fun os started H enc _ => labelAll_lifted os started H enc)

/-- THE TIED CARD. -/
theorem labelAll_card : Rows.LabelAllCardSaid :=
  Claim7.holds_tied_plain_at .later [] [.handle] true Rows.labelAllCard.stood.harness true
    labelAll_holds (fun _ h => by cases h) (by kernel_rfl) (fun _ h => by cases h) labelAll_row_tie rfl ⟨rfl, rfl⟩ (by kernel_rfl) rfl
    (fun f fn hf hfn => by
      obtain rfl : f = 4 := Option.some.inj ((show Tryz.prog.funcNamed "gatepost/gatepostlaw06.LabelAll" = some 4 by kernel_rfl).symm.trans hf) |>.symm
      obtain rfl : fn = Tryz.f4 := (Option.some.inj (func_labelAll.symm.trans hfn)).symm
      exact ⟨by kernel_rfl, fun j t ht => by
        have ht' : ([22] : List TypeId)[j]? = some t := by
          have h2 : Tryz.f4.params.toList[j]? = some t := by simpa using ht
          exact h2
        have h3 : t = 22 := by
          have := List.mem_of_getElem? ht'
          simpa using this
        subst h3
        exact (show Tryz.prog.wantsStandIn 22 = false by kernel_rfl)⟩)
    (by kernel_rfl)
end Go.Proofs.YthnabbidlmihbaaGreatDoor
