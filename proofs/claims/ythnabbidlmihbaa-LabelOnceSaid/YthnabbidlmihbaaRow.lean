/- From a contract to the given row: what reads as it did, and the answer true. -/
import Derived.Test.YthnabbidlmihbaaSep
import Derived.ProofKit
namespace Go.Gp
open Go.ChangeShapes Go.WideShapes Go.ChangeAt Go.RowKit

section
variable {H : Type} {enc : TypeId × Value → H} {P : Program}

theorem trodAll_stays (hl : laidOutB P = true) {W W' : World} (hb : Below W.heap.size W W') {sp' : Nat → Bool} :
    ∀ {ts : List TypeId} {vs : List Value} {ds : List (DataW H)} {ps : List MemPlace}, (ts.all fun t => P.readableRec t && decide (t < P.types.size)) = true → (∀ p ∈ ps, p.block < W.heap.size) → (∀ p ∈ ps, sp' p.block = true) →
      DataW.TrodAll enc P W 0 (fun _ => true) true ts vs ds ps → DataW.TrodAll enc P W' 0 sp' true ts vs ds ps
  | [], _, _, _, _, _, _, h => by
    obtain ⟨rfl, rfl, rfl⟩ := trodAll_nil h
    exact rfl
  | t :: ts, _, _, _, ha, hlt, hsp, h => by
    obtain ⟨v, vs', d, ds', p, q, rfl, rfl, rfl, h1, h2⟩ := trodAll_cons h
    simp only [List.all_cons, Bool.and_eq_true, decide_eq_true_eq] at ha
    refine ⟨p, q, WideElems.Trod_stays hl ha.1.1 ha.1.2 h1 (fun x hx => hb.same (hlt x (by simp [hx]))) (fun x hx => hsp x (by simp [hx])), ?_, rfl⟩
    exact trodAll_stays hl hb ha.2 (fun x hx => hlt x (by simp [hx])) (fun x hx => hsp x (by simp [hx])) h2

/-- The call returned true, and nothing that was there has turned. -/
theorem post_true {f : Func} {s : ChangeSpec} {apart fresh handsOn : Bool} {W W' : World} {args : Array Value} {ds gs : List (DataW H)} {before : List MemPlace} {tb : TypeId}
    (hl : laidOutB P = true) (hp : (f.params.toList.all fun t => P.readableRec t && decide (t < P.types.size)) = true) (hv : s.vars = []) (hr : f.resultTypes = #[tb]) (htb : P.underlying tb = some .bool)
    (hW : DataW.Whole enc P f.params.toList s.vars apart W args.toList ds gs before) (hb : Below W.heap.size W W')
    (hs1 : (s.fn H (ds ++ gs)).results = [.lit (.bool true)]) (hs2 : (s.fn H (ds ++ gs)).args = ds) (hs3 : (s.fn H (ds ++ gs)).vars = []) :
    s.post enc P f apart fresh handsOn false W args (.bool true) W' := by
  have hlt := hW.lt
  have hW0 := hW
  obtain ⟨p, q, h1, h2, e, hz, hn⟩ := hW
  rw [hv] at h2
  obtain ⟨rfl, rfl⟩ := trodVars_none h2
  rw [List.append_nil] at e
  subst e
  refine ⟨ds, [], before, [], before, [], hW0, ?_, ?_, ?_, World.keptBut_mono (fun x hx => ⟨hx, .inr (.inl hx)⟩) (hb.frame _), fun h => by cases h⟩
  · rw [hr, hs1]
    exact trodAll_mk1 (shut_bool htb true)
  · rw [hs2]
    exact trodAll_stays hl hb hp hlt (fun x hx => by simpa using hlt x hx) h1
  · rw [hs3, hv]
    rfl

/-- A slice of runes is opened. -/
theorem open_runes {t e : TypeId} {W : World} {v : Value} {d : DataW H} {ps : List MemPlace} (ht : P.underlying t = some (.slice e)) (he : P.underlying e = some (.int .i32)) (hc : P.cellsOf e = 1) (hf : Value.okWide P W .any 0 t v)
    (h : DataW.Trod enc P W 0 (fun _ => true) true t v d ps) : ∃ (A : Option Addr) (c : Nat) (l : List Int), v = .slice A l.length c ∧ Rd W [] A (l.map (.int .i32 ·)) ∧ (∀ n ∈ l, -2147483648 ≤ n ∧ n ≤ 2147483647) ∧ l.length ≤ c ∧ c ≤ maxLen := by
  obtain ⟨A, n, c, rfl⟩ := okWide_slice ht hf
  obtain ⟨fuel, hd⟩ := h
  rcases open_ints ht he hc hd with ⟨h1, _⟩ | ⟨a, len, cap, zs, h1, _, hl, hm, hz, _, hcell, hwf⟩
  · simp [Value.cells] at h1
    obtain ⟨rfl, rfl, rfl⟩ := h1
    exact ⟨none, 0, [], rfl, Rd.nil _, by simp, by simp, by simp⟩
  · simp [Value.cells] at h1
    obtain ⟨rfl, rfl, rfl⟩ := h1
    rw [if_pos rfl] at hz
    refine ⟨some a, c, zs.take n, by simp [hz, hl], ?_, fun i hi => ?_, by simp [hz, hl], hm⟩
    · unfold Rd
      intro w hw j u hj
      refine ⟨a, rfl, ?_⟩
      have hj' := (List.getElem?_eq_some_iff.1 hj)
      obtain ⟨hj1, hj2⟩ := hj'
      simp at hj1
      have hcj := hcell j (by omega)
      have hblk : (a.add j).block < W.heap.size := World.block_lt_of_cell? W _ hcj
      rw [hw.below.cell hblk, hcj]
      rw [← hj2]
      have : j < zs.length := by omega
      simp [this]
    · have := hwf i (List.mem_of_mem_take hi)
      simp [Lit.wf] at this
      exact this
end

/-- A cell that is known at the start can be read. -/
theorem rd_of_cell {W : World} {g : Nat} {v : Value} (h : W.cell? ⟨g, 0, none⟩ = some v) : Rd W [] (some ⟨g, 0, none⟩) [v] := by
  unfold Rd
  intro w hw j u hj
  obtain ⟨hj1, hj2⟩ := List.getElem?_eq_some_iff.1 hj
  have h0 : j = 0 := by simpa using hj1
  subst h0
  refine ⟨_, rfl, ?_⟩
  rw [Addr.add_zero', hw.below.cell (World.block_lt_of_cell? W _ h), h]
  exact congrArg some hj2

/-- A contract, as the row wants it. -/
theorem PureC.calls {P : Program} {f : FuncId} {args : List Value} {W : World} {v : Value} (h : PureC P f args W [] v) : Calls P f args.toArray W fun e w' => e = .returned v ∧ Below W.heap.size W w' := by
  unfold PureC Ct at h
  refine (h.2 W (Mem.refl W)).mono fun e w' hh => ?_
  unfold sp at hh
  obtain ⟨_, _, he, hm⟩ := hh
  exact ⟨he, hm.below⟩
end Go.Gp
