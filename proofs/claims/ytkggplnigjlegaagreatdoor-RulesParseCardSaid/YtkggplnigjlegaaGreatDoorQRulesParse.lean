/- For every two strings, gatepostlaw15.RulesParse returns true, and its arguments read as they did. Condition: as the given card has it: the variables unicode/utf8.first and unicode/utf8.acceptRanges are tied to the program's text. -/
import Derived.ProofKit
import Derived.Test.YtkggplnigjlegaaGreatDoorCards
import Derived.Test.YtkggplnigjlegaaGreatDoorTie
import Derived.Lay
import Derived.LaidLaws
import Derived.LaidHandle
import Derived.Stop.Joined
import Derived.SevenTiedAt
import Derived.Test.YtkggplnigjlegaaGreatDoorM5
/- From a contract to the given row: what reads as it did, and the answer true. -/
namespace Go.Gp
open Go.ChangeShapes Go.WideShapes Go.ChangeAt Go.RowKit

section
variable {H : Type} {enc : TypeId × Value → H} {P : Program}

theorem trodAll_stays (hl : laidOutB P = true) {W W' : World} (hb : Below W.heap.size W W') {sp' : Nat → Bool} :
    ∀ {ts : List TypeId} {vs : List Value} {ds : List (DataW H)} {ps : List MemPlace}, (ts.all fun t => P.readableRec t && decide (t < P.types.size)) = true → (∀ p ∈ ps, p.block < W.heap.size) → (∀ p ∈ ps, sp' p.block = true) →
      DataW.TrodAll enc P W 0 (fun _ => true) true ts vs ds ps → DataW.TrodAll enc P W' 0 sp' true ts vs ds ps
  | [], _, _, _, _, _, _, h => by
    obtain ⟨rfl, rfl, rfl⟩ := trodAll_nil h
    exact rfl
  | t :: ts, _, _, _, ha, hlt, hsp, h => by
    obtain ⟨v, vs', d, ds', p, q, rfl, rfl, rfl, h1, h2⟩ := trodAll_cons h
    simp only [List.all_cons, Bool.and_eq_true, decide_eq_true_eq] at ha
    refine ⟨p, q, WideElems.Trod_stays hl ha.1.1 ha.1.2 h1 (fun x hx => hb.same (hlt x (by simp [hx]))) (fun x hx => hsp x (by simp [hx])), ?_, rfl⟩
    exact trodAll_stays hl hb ha.2 (fun x hx => hlt x (by simp [hx])) (fun x hx => hsp x (by simp [hx])) h2

/-- The call returned true, and nothing that was there has turned. -/
theorem post_true {f : Func} {s : ChangeSpec} {apart fresh handsOn : Bool} {W W' : World} {args : Array Value} {ds gs : List (DataW H)} {before : List MemPlace} {tb : TypeId}
    (hl : laidOutB P = true) (hp : (f.params.toList.all fun t => P.readableRec t && decide (t < P.types.size)) = true) (hv : s.vars = []) (hr : f.resultTypes = #[tb]) (htb : P.underlying tb = some .bool)
    (hW : DataW.Whole enc P f.params.toList s.vars apart W args.toList ds gs before) (hb : Below W.heap.size W W')
    (hs1 : (s.fn H (ds ++ gs)).results = [.lit (.bool true)]) (hs2 : (s.fn H (ds ++ gs)).args = ds) (hs3 : (s.fn H (ds ++ gs)).vars = []) :
    s.post enc P f apart fresh handsOn false W args (.bool true) W' := by
  have hlt := hW.lt
  have hW0 := hW
  obtain ⟨p, q, h1, h2, e, hz, hn⟩ := hW
  rw [hv] at h2
  obtain ⟨rfl, rfl⟩ := trodVars_none h2
  rw [List.append_nil] at e
  subst e
  refine ⟨ds, [], before, [], before, [], hW0, ?_, ?_, ?_, World.keptBut_mono (fun x hx => ⟨hx, .inr (.inl hx)⟩) (hb.frame _), fun h => by cases h⟩
  · rw [hr, hs1]
    exact trodAll_mk1 (shut_bool htb true)
  · rw [hs2]
    exact trodAll_stays hl hb hp hlt (fun x hx => by simpa using hlt x hx) h1
  · rw [hs3, hv]
    rfl

/-- A slice of runes is opened. -/
theorem open_runes {t e : TypeId} {W : World} {v : Value} {d : DataW H} {ps : List MemPlace} (ht : P.underlying t = some (.slice e)) (he : P.underlying e = some (.int .i32)) (hc : P.cellsOf e = 1) (hf : Value.okWide P W .any 0 t v)
    (h : DataW.Trod enc P W 0 (fun _ => true) true t v d ps) : ∃ (A : Option Addr) (c : Nat) (l : List Int), v = .slice A l.length c ∧ Rd W [] A (l.map (.int .i32 ·)) ∧ (∀ n ∈ l, -2147483648 ≤ n ∧ n ≤ 2147483647) ∧ l.length ≤ c ∧ c ≤ maxLen := by
  obtain ⟨A, n, c, rfl⟩ := okWide_slice ht hf
  obtain ⟨fuel, hd⟩ := h
  rcases open_ints ht he hc hd with ⟨h1, _⟩ | ⟨a, len, cap, zs, h1, _, hl, hm, hz, _, hcell, hwf⟩
  · simp [Value.cells] at h1
    obtain ⟨rfl, rfl, rfl⟩ := h1
    exact ⟨none, 0, [], rfl, Rd.nil _, by simp, by simp, by simp⟩
  · simp [Value.cells] at h1
    obtain ⟨rfl, rfl, rfl⟩ := h1
    rw [if_pos rfl] at hz
    refine ⟨some a, c, zs.take n, by simp [hz, hl], ?_, fun i hi => ?_, by simp [hz, hl], hm⟩
    · unfold Rd
      intro w hw j u hj
      refine ⟨a, rfl, ?_⟩
      have hj' := (List.getElem?_eq_some_iff.1 hj)
      obtain ⟨hj1, hj2⟩ := hj'
      simp at hj1
      have hcj := hcell j (by omega)
      have hblk : (a.add j).block < W.heap.size := World.block_lt_of_cell? W _ hcj
      rw [hw.below.cell hblk, hcj]
      rw [← hj2]
      have : j < zs.length := by omega
      simp [this]
    · have := hwf i (List.mem_of_mem_take hi)
      simp [Lit.wf] at this
      exact this
end

/-- A cell that is known at the start can be read. -/
theorem rd_of_cell {W : World} {g : Nat} {v : Value} (h : W.cell? ⟨g, 0, none⟩ = some v) : Rd W [] (some ⟨g, 0, none⟩) [v] := by
  unfold Rd
  intro w hw j u hj
  obtain ⟨hj1, hj2⟩ := List.getElem?_eq_some_iff.1 hj
  have h0 : j = 0 := by simpa using hj1
  subst h0
  refine ⟨_, rfl, ?_⟩
  rw [Addr.add_zero', hw.below.cell (World.block_lt_of_cell? W _ h), h]
  exact congrArg some hj2

/-- A contract, as the row wants it. -/
theorem PureC.calls {P : Program} {f : FuncId} {args : List Value} {W : World} {v : Value} (h : PureC P f args W [] v) : Calls P f args.toArray W fun e w' => e = .returned v ∧ Below W.heap.size W w' := by
  unfold PureC Ct at h
  refine (h.2 W (Mem.refl W)).mono fun e w' hh => ?_
  unfold sp at hh
  obtain ⟨_, _, he, hm⟩ := hh
  exact ⟨he, hm.below⟩
end Go.Gp

/- For every two strings, gatepostlaw15.RulesParse returns true, and its arguments read as they did. Condition: as the given card has it: the variables unicode/utf8.first and unicode/utf8.acceptRanges are tied to the program's text. -/
namespace Go.Proofs.YtkggplnigjlegaaGreatDoor
open Go.ChangeShapes Go.WideShapes Go.ChangeAt Go.RowKit Go.Gp

theorem own_rulesParse : ownKnob Tryz.prog.godebug = none := by kernel_rfl
theorem laid_rulesParse : laidOutB Tryz.prog = true := by kernel_rfl
set_option maxRecDepth 1000000 in
theorem func_rulesParse : Tryz.prog.funcs[3]? = some Tryz.f3 := rfl
set_option maxRecDepth 100000 in
theorem rulesParse_lifted (os : Os) (started : os.Started) (H : Type) (enc : TypeId × Value → H) :
    ReturnsInHanded {} Tryz.checked os 3 .any (fun w args => (Rows.rulesParseSpec.pre enc Tryz.prog Tryz.f3 [] false w args ∧ laidMetH Tryz.prog Rows.rulesParseRow.laid w) ∧ sizedMet enc Tryz.prog Tryz.f3 (OpenSpec.ofChange Rows.rulesParseSpec) false w args)
      (Rows.rulesParseSpec.post enc Tryz.prog Tryz.f3 false true false false) := by
  refine returnsInHanded_of_change_and (C := Tryz.checked) (X := fun w _ => laidMetH Tryz.prog Rows.rulesParseRow.laid w) (fun _ _ _ hh h => h.of_heap hh) own_rulesParse started (by kernel_rfl) func_rulesParse
    (ChangeSpec.witness_shaped (enc := enc) (C := Tryz.checked) (os := os) (X := fun w _ => laidMetH Tryz.prog Rows.rulesParseRow.laid w) false (World.laidAll Tryz.prog os Rows.rulesParseRow.laid) #[.string ⟨#[]⟩, .string ⟨#[]⟩] 8 (World.laidAll_os _ _ _)
      (World.shaped_of_ZipB (by kernel_rfl) (by kernel_rfl)) (by kernel_rfl) (by kernel_rfl) (by kernel_rfl)
      (by rw [MakeChecks.laidMetH_plain _ _ _ (by kernel_rfl)]; exact laidMet_laidAll _ (by kernel_rfl) (by kernel_rfl))) ?_
  intro W base args ds gs before hval0 hW _ _ hL _
  have hval1 : ∀ (j : Nat) t v, Tryz.f3.params[j]? = some t → args[j]? = some v → Value.okWide Tryz.prog W .any base t v := hval0
  have hval : ∀ (j : Nat) t v, Tryz.f3.params[j]? = some t → args[j]? = some v → Value.okWide Tryz.prog W .any 0 t v := hval1
  have hW' := hW
  obtain ⟨p, q, hA0, hV, rfl, hfz, hnd⟩ := hW
  have hA : DataW.TrodAll enc Tryz.prog W 0 (fun _ => true) true [9, 9] args.toList ds p := hA0
  obtain ⟨v0, v1, d0, d1, p0, p1, rfl, rfl, rfl, h0, h1⟩ := trodAll_two hA
  obtain ⟨rfl, rfl⟩ := trodVars_none hV
  obtain ⟨a0, rfl, rfl, rfl, ha0⟩ := Go.ChangeMaps.open_string Tryz.underlying9 (hval 0 9 v0 rfl rfl) h0
  obtain ⟨a1, rfl, rfl, rfl, ha1⟩ := Go.ChangeMaps.open_string Tryz.underlying9 (hval 1 9 v1 rfl rfl) h1
  refine ((rulesParse_spec a0 a1 W []).calls).mono fun e W' hh => ?_
  obtain ⟨he, hb⟩ := hh
  exact ⟨_, he, post_true laid_rulesParse (by kernel_rfl) rfl rfl rfl hW' hb rfl rfl rfl⟩

theorem rulesParse_holds : Rows.RulesParseSaid :=
  OpenClaim.holds_of_wide 3 Tryz.f3 rfl rfl rfl rfl rfl rfl rfl ⟨rfl, rfl, rfl, rfl, rfl⟩ rfl rfl rfl rfl rfl (by kernel_rfl) func_rulesParse (by kernel_rfl)
    (of_decide_eq_true (by kernel_rfl)) (by unfold Func.isWrapper; first | (rw [if_pos (by decide +kernel)]; kernel_rfl) | (rw [if_neg (by decide +kernel)]; exact ⟨rfl, rfl⟩))
    (fun os started H enc _ => rulesParse_lifted os started H enc)

/-- THE TIED CARD. -/
theorem rulesParse_card : Rows.RulesParseCardSaid :=
  Claim7.holds_tied_plain_at .later [] [.data, .pinned] true Rows.rulesParseCard.stood.harness false
    rulesParse_holds (fun _ h => by cases h) (by kernel_rfl) (fun _ h => by cases h) rulesParse_row_tie rfl ⟨rfl, rfl⟩ (by kernel_rfl) rfl
    (fun f fn hf hfn => by
      obtain rfl : f = 3 := Option.some.inj ((show Tryz.prog.funcNamed "gatepost/gatepostlaw15.RulesParse" = some 3 by kernel_rfl).symm.trans hf) |>.symm
      obtain rfl : fn = Tryz.f3 := (Option.some.inj (func_rulesParse.symm.trans hfn)).symm
      exact ⟨by kernel_rfl, fun j t ht => by
        have ht' : ([9, 9] : List TypeId)[j]? = some t := by
          have h2 : Tryz.f3.params.toList[j]? = some t := by simpa using ht
          exact h2
        have h3 : t = 9 := by
          have := List.mem_of_getElem? ht'
          simpa using this
        subst h3
        exact (show Tryz.prog.wantsStandIn 9 = false by kernel_rfl)⟩)
    (by kernel_rfl)
end Go.Proofs.YtkggplnigjlegaaGreatDoor
