/- For every string, gatepostlaw15.RulesBack returns true, and its argument reads as it did. Condition: as the given card has it: the variables unicode/utf8.first and unicode/utf8.acceptRanges are tied to the program's text. -/
import Derived.ProofKit
import Derived.Test.YtkggplnigjlegaaDoorCards
import Derived.Test.YtkggplnigjlegaaDoorTie
import Derived.Lay
import Derived.LaidLaws
import Derived.LaidHandle
import Derived.Stop.Joined
import Derived.SevenTiedAt
import Derived.Test.YtkggplnigjlegaaDoorM3
/- From a contract to the given row: what reads as it did, and the answer true. -/
namespace Go.Gp
open Go.ChangeShapes Go.WideShapes Go.ChangeAt Go.RowKit

section
variable {H : Type} {enc : TypeId × Value → H} {P : Program}

theorem trodAll_stays (hl : laidOutB P = true) {W W' : World} (hb : Below W.heap.size W W') {sp' : Nat → Bool} :
    ∀ {ts : List TypeId} {vs : List Value} {ds : List (DataW H)} {ps : List MemPlace}, (ts.all fun t => P.readableRec t && decide (t < P.types.size)) = true → (∀ p ∈ ps, p.block < W.heap.size) → (∀ p ∈ ps, sp' p.block = true) →
      DataW.TrodAll enc P W 0 (fun _ => true) true ts vs ds ps → DataW.TrodAll enc P W' 0 sp' true ts vs ds ps
  | [], _, _, _, _, _, _, h => by
    obtain ⟨rfl, rfl, rfl⟩ := trodAll_nil h
    exact rfl
  | t :: ts, _, _, _, ha, hlt, hsp, h => by
    obtain ⟨v, vs', d, ds', p, q, rfl, rfl, rfl, h1, h2⟩ := trodAll_cons h
    simp only [List.all_cons, Bool.and_eq_true, decide_eq_true_eq] at ha
    refine ⟨p, q, WideElems.Trod_stays hl ha.1.1 ha.1.2 h1 (fun x hx => hb.same (hlt x (by simp [hx]))) (fun x hx => hsp x (by simp [hx])), ?_, rfl⟩
    exact trodAll_stays hl hb ha.2 (fun x hx => hlt x (by simp [hx])) (fun x hx => hsp x (by simp [hx])) h2

/-- The call returned true, and nothing that was there has turned. -/
theorem post_true {f : Func} {s : ChangeSpec} {apart fresh handsOn : Bool} {W W' : World} {args : Array Value} {ds gs : List (DataW H)} {before : List MemPlace} {tb : TypeId}
    (hl : laidOutB P = true) (hp : (f.params.toList.all fun t => P.readableRec t && decide (t < P.types.size)) = true) (hv : s.vars = []) (hr : f.resultTypes = #[tb]) (htb : P.underlying tb = some .bool)
    (hW : DataW.Whole enc P f.params.toList s.vars apart W args.toList ds gs before) (hb : Below W.heap.size W W')
    (hs1 : (s.fn H (ds ++ gs)).results = [.lit (.bool true)]) (hs2 : (s.fn H (ds ++ gs)).args = ds) (hs3 : (s.fn H (ds ++ gs)).vars = []) :
    s.post enc P f apart fresh handsOn false W args (.bool true) W' := by
  have hlt := hW.lt
  have hW0 := hW
  obtain ⟨p, q, h1, h2, e, hz, hn⟩ := hW
  rw [hv] at h2
  obtain ⟨rfl, rfl⟩ := trodVars_none h2
  rw [List.append_nil] at e
  subst e
  refine ⟨ds, [], before, [], before, [], hW0, ?_, ?_, ?_, World.keptBut_mono (fun x hx => ⟨hx, .inr (.inl hx)⟩) (hb.frame _), fun h => by cases h⟩
  · rw [hr, hs1]
    exact trodAll_mk1 (shut_bool htb true)
  · rw [hs2]
    exact trodAll_stays hl hb hp hlt (fun x hx => by simpa using hlt x hx) h1
  · rw [hs3, hv]
    rfl

/-- A slice of runes is opened. -/
theorem open_runes {t e : TypeId} {W : World} {v : Value} {d : DataW H} {ps : List MemPlace} (ht : P.underlying t = some (.slice e)) (he : P.underlying e = some (.int .i32)) (hc : P.cellsOf e = 1) (hf : Value.okWide P W .any 0 t v)
    (h : DataW.Trod enc P W 0 (fun _ => true) true t v d ps) : ∃ (A : Option Addr) (c : Nat) (l : List Int), v = .slice A l.length c ∧ Rd W [] A (l.map (.int .i32 ·)) ∧ (∀ n ∈ l, -2147483648 ≤ n ∧ n ≤ 2147483647) ∧ l.length ≤ c ∧ c ≤ maxLen := by
  obtain ⟨A, n, c, rfl⟩ := okWide_slice ht hf
  obtain ⟨fuel, hd⟩ := h
  rcases open_ints ht he hc hd with ⟨h1, _⟩ | ⟨a, len, cap, zs, h1, _, hl, hm, hz, _, hcell, hwf⟩
  · simp [Value.cells] at h1
    obtain ⟨rfl, rfl, rfl⟩ := h1
    exact ⟨none, 0, [], rfl, Rd.nil _, by simp, by simp, by simp⟩
  · simp [Value.cells] at h1
    obtain ⟨rfl, rfl, rfl⟩ := h1
    rw [if_pos rfl] at hz
    refine ⟨some a, c, zs.take n, by simp [hz, hl], ?_, fun i hi => ?_, by simp [hz, hl], hm⟩
    · unfold Rd
      intro w hw j u hj
      refine ⟨a, rfl, ?_⟩
      have hj' := (List.getElem?_eq_some_iff.1 hj)
      obtain ⟨hj1, hj2⟩ := hj'
      simp at hj1
      have hcj := hcell j (by omega)
      have hblk : (a.add j).block < W.heap.size := World.block_lt_of_cell? W _ hcj
      rw [hw.below.cell hblk, hcj]
      rw [← hj2]
      have : j < zs.length := by omega
      simp [this]
    · have := hwf i (List.mem_of_mem_take hi)
      simp [Lit.wf] at this
      exact this
end

/-- A cell that is known at the start can be read. -/
theorem rd_of_cell {W : World} {g : Nat} {v : Value} (h : W.cell? ⟨g, 0, none⟩ = some v) : Rd W [] (some ⟨g, 0, none⟩) [v] := by
  unfold Rd
  intro w hw j u hj
  obtain ⟨hj1, hj2⟩ := List.getElem?_eq_some_iff.1 hj
  have h0 : j = 0 := by simpa using hj1
  subst h0
  refine ⟨_, rfl, ?_⟩
  rw [Addr.add_zero', hw.below.cell (World.block_lt_of_cell? W _ h), h]
  exact congrArg some hj2

/-- A contract, as the row wants it. -/
theorem PureC.calls {P : Program} {f : FuncId} {args : List Value} {W : World} {v : Value} (h : PureC P f args W [] v) : Calls P f args.toArray W fun e w' => e = .returned v ∧ Below W.heap.size W w' := by
  unfold PureC Ct at h
  refine (h.2 W (Mem.refl W)).mono fun e w' hh => ?_
  unfold sp at hh
  obtain ⟨_, _, he, hm⟩ := hh
  exact ⟨he, hm.below⟩
end Go.Gp

/- gatepostlaw15.signed: the walk. -/
set_option linter.unusedVariables false
set_option linter.unusedSimpArgs false
namespace Go.Proofs.YtkggplnigjlegaaDoor
open Go.RowKit Go.Gp

/-- Does a text begin with ! or two slashes? -/
def signedB (t : ByteArray) : Bool := decide (t.data.toList.head? = some 33) || (decide (1 < t.size) && decide (t.extract 0 2 = ⟨#[47, 47]⟩))
set_option maxRecDepth 100000 in
theorem signed_spec (t : ByteArray) (w0 : World) (m0 : List Res) : PureC Tryd.prog 11 [.string t] w0 m0 (.bool (signedB t)) := by
  by_cases h0 : 0 < t.size
  · have hb := get_at t 0 h0
    refine Ct.of Tryd.func11 rfl (by kernel_rfl) rfl ?_
    (refine c_sq fun k6 h6 => c_rg <| r_as rfl rfl <| r_nx h6 <| c_sq fun k8 h8 => c_rg <| r_mv rfl rfl <| r_lS Tryd.underlying9 rfl rfl <| r_gtT rfl rfl rfl (by omega) <| r_mv rfl rfl <| r_mv rfl rfl ?_; rotate_left)
    refine r_iS (v := t.get! 0) rfl rfl rfl rfl (by decide) (by rw [← Array.getElem?_toList]; exact hb) ?_
    have hh : t.data.toList.head? = some (t.get! 0) := by rw [List.head?_eq_getElem?]; exact hb
    generalize t.get! 0 = x at hb hh
    by_cases hx : x.toNat = 33
    · have hx' : x = 33 := UInt8.toNat_inj.1 hx
      have hs : signedB t = true := by unfold signedB; rw [hh, hx']; rfl
      (refine r_eqT rfl rfl rfl (by omega) <| r_pT rfl rfl rfl <| r_mv rfl rfl <| r_sk rfl rfl <| r_sk rfl rfl <| r_sk rfl rfl <| r_sk rfl rfl <| r_sk rfl rfl <| r_sk rfl rfl <| r_sk rfl rfl <| r_sk rfl rfl <| r_pT rfl rfl rfl <| r_as rfl rfl <| r_nx h8 <| c_rt ?_; rotate_left)
      exact WE.ret1 () rfl rfl (by rw [hs]; rfl) trivial Mem.drop
    · have hs : signedB t = (decide (1 < t.size) && decide (t.extract 0 2 = ⟨#[47, 47]⟩)) := by
        unfold signedB
        rw [hh, decide_eq_false (fun e => hx (by have := Option.some.inj e; rw [this]; rfl)), Bool.false_or]
      by_cases h1 : 1 < t.size
      · rw [decide_eq_true h1, Bool.true_and] at hs
        (refine r_eqF rfl rfl rfl (by omega) <| r_pT rfl rfl rfl <| r_mv rfl rfl <| r_mv rfl rfl <| r_lS Tryd.underlying9 rfl rfl <| r_gtT rfl rfl rfl (by omega) <| r_mv rfl rfl <| r_mv rfl rfl ?_; rotate_left)
        refine r_sT Tryd.underlying9 rfl rfl (by omega) (by omega) rfl ?_
        refine r_seq (s' := ⟨#[47, 47]⟩) rfl rfl (fun _ => by kernel_rfl) rfl ?_
        rw [show (2 : Int).toNat = 2 from rfl, ← hs]
        (refine r_pT rfl rfl rfl <| r_pF rfl rfl rfl <| r_as rfl rfl <| r_nx h8 <| c_rt ?_; rotate_left)
        exact WE.ret1 () rfl rfl rfl trivial Mem.drop
      · rw [decide_eq_false h1, Bool.false_and] at hs
        (refine r_eqF rfl rfl rfl (by omega) <| r_pT rfl rfl rfl <| r_mv rfl rfl <| r_mv rfl rfl <| r_lS Tryd.underlying9 rfl rfl <| r_gtF rfl rfl rfl (by omega) <| r_mv rfl rfl <| r_sk rfl rfl <| r_sk rfl rfl <| r_sk rfl rfl <| r_pF rfl rfl rfl <| r_pF rfl rfl rfl <| r_as rfl rfl <| r_nx h8 <| c_rt ?_; rotate_left)
        exact WE.ret1 () rfl rfl (by rw [hs]; rfl) trivial Mem.drop
  · have e : t = ⟨#[]⟩ := ba_ext (by simpa using (List.eq_nil_of_length_eq_zero (by rw [size_list]; omega) : t.data.toList = []))
    subst e
    refine Ct.of Tryd.func11 rfl (by kernel_rfl) rfl ?_
    (refine c_sq fun k5 h5 => c_rg <| r_as rfl rfl <| r_nx h5 <| c_sq fun k7 h7 => c_rg <| r_mv rfl rfl <| r_lS Tryd.underlying9 rfl rfl <| r_gtF rfl rfl rfl (by omega) <| r_mv rfl rfl <| r_sk rfl rfl <| r_sk rfl rfl <| r_sk rfl rfl <| r_pF rfl rfl rfl <| r_mv rfl rfl <| r_mv rfl rfl <| r_lS Tryd.underlying9 rfl rfl <| r_gtF rfl rfl rfl (by omega) <| r_mv rfl rfl <| r_sk rfl rfl <| r_sk rfl rfl <| r_sk rfl rfl <| r_pF rfl rfl rfl <| r_pF rfl rfl rfl <| r_as rfl rfl <| r_nx h7 <| c_rt ?_; rotate_left)
    exact WE.ret1 () rfl rfl rfl trivial Mem.drop
end Go.Proofs.YtkggplnigjlegaaDoor

/- The plain law of RulesBack: a rule that is told is read back. In plain Lean. -/
set_option linter.unusedVariables false
namespace Go.Proofs.YtkggplnigjlegaaDoor
open Go.RowKit Go.Gp

/-! ### What is no blank stays none -/
theorem nxG_hi (s : ByteArray) : ∀ (k i : Nat) (c lo hi : Int), 33 ≤ c → 33 ≤ (nxG s k i c lo hi).1
  | 0, i, c, lo, hi, h => h
  | k + 1, i, c, lo, hi, h => by
    rw [nxG]
    split
    · have := Int.emod_nonneg ((s.data.toList.getD i 0).toNat : Int) (by decide : (64 : Int) ≠ 0)
      exact nxG_hi s k (i + 1) _ _ _ (by omega)
    · dsimp only; omega
theorem nxG_hi1 (s : ByteArray) (k i : Nat) (c lo hi : Int) (h : 1 ≤ c) : 33 ≤ (nxG s (k + 1) i c lo hi).1 := by
  rw [nxG]
  split
  · have := Int.emod_nonneg ((s.data.toList.getD i 0).toNat : Int) (by decide : (64 : Int) ≠ 0)
    exact nxG_hi s k (i + 1) _ _ _ (by omega)
  · dsimp only; omega
theorem nxG_hi0 (s : ByteArray) (k i : Nat) (lo hi : Int) (hlo : 129 ≤ lo) (hhi : hi ≤ 191) : 33 ≤ (nxG s (k + 2) i 0 lo hi).1 := by
  rw [nxG]
  split
  · rename_i h
    unfold inP at h
    simp only [Bool.and_eq_true, decide_eq_true_eq] at h
    exact nxG_hi1 s k (i + 1) _ _ _ (by omega)
  · dsimp only; omega
theorem nextP_hi (s : ByteArray) (h : 32 < (s.data.toList.getD 0 0).toNat) : 32 < (nextP s).1 := by
  refine Int.lt_of_lt_of_le (by decide : (32 : Int) < 33) ?_
  unfold nextP
  split
  · dsimp only; omega
  · rename_i h128
    generalize (s.data.toList.getD 0 0).toNat = c at h h128 ⊢
    unfold fstP
    split
    · exact nxG_hi1 s 0 1 _ _ _ (by dsimp only; omega)
    · split
      · exact nxG_hi0 s 0 1 _ _ (by dsimp only; omega) (by dsimp only; omega)
      · split
        · exact nxG_hi1 s 1 1 _ _ _ (by dsimp only; omega)
        · split
          · exact nxG_hi1 s 1 1 _ _ _ (by dsimp only; omega)
          · split
            · exact nxG_hi0 s 1 1 _ _ (by dsimp only; omega) (by dsimp only; omega)
            · split
              · exact nxG_hi1 s 2 1 _ _ _ (by dsimp only; omega)
              · split
                · exact nxG_hi1 s 2 1 _ _ _ (by dsimp only; omega)
                · exact nxG_hi s 0 1 _ _ _ (by dsimp only; omega)
theorem drop_list (s : ByteArray) (k : Nat) : (s.extract k s.size).data.toList = s.data.toList.drop k := by rw [ext_drop, list_strOf]
theorem decU_hi : ∀ (f : Nat) (s : ByteArray), (∀ b ∈ s.data.toList, 32 < b.toNat) → ∀ x ∈ decU f s, 32 < x
  | 0, s, _, x, hx => by simp [decU] at hx
  | f + 1, s, h, x, hx => by
    rw [decU] at hx
    split at hx
    · simp at hx
    · rename_i h0
      rcases List.mem_cons.1 hx with e | hx
      · rw [e]; exact nextP_hi s (h _ (getD_mem _ 0 (by rw [size_list]; omega)))
      · exact decU_hi f _ (fun b hb => h b (by rw [drop_list] at hb; exact List.mem_of_mem_drop hb)) x hx
theorem decU_asc : ∀ (f : Nat) (s : ByteArray), s.size < f → (∀ b ∈ s.data.toList, b.toNat < 128) → decU f s = asc s
  | 0, s, h, _ => by omega
  | f + 1, s, h, hb => by
    rw [decU]
    cases hd : s.data.toList with
    | nil =>
      have h0 : s.size = 0 := by rw [← size_list, hd]; rfl
      rw [if_pos h0]
      unfold asc
      rw [hd]; rfl
    | cons x r =>
      have h0 : ¬ s.size = 0 := by rw [← size_list, hd]; simp
      have hx : x.toNat < 128 := hb x (by rw [hd]; simp)
      have e : nextP s = ((x.toNat : Int), 1) := by
        unfold nextP
        rw [hd]
        exact if_pos hx
      have hr : (s.extract 1 s.size).data.toList = r := by rw [drop_list, hd]; rfl
      rw [if_neg h0, e, decU_asc f (s.extract 1 s.size) (by rw [ByteArray.size_extract]; omega) (fun b hb' => hb b (by rw [hr] at hb'; rw [hd]; simp [hb']))]
      unfold asc
      rw [hr, hd]; rfl
theorem decUP_asc {s : ByteArray} (h : ∀ b ∈ s.data.toList, b.toNat < 128) : decUP s = asc s := decU_asc _ s (Nat.lt_succ_self _) h
theorem mapP_hi {c : Int} (h1 : 32 < c) (h2 : c ≤ 2147483647) : ∀ x ∈ (mapP c).1, 32 < x := by
  intro x hx
  rw [map_law c (by omega) h2] at hx
  have r1 : ∀ c : Int, 32 < c → ∀ x ∈ refMap1 c, 32 < x := by
    intro c hc x hx
    unfold refMap1 at hx
    split at hx
    · rw [List.mem_singleton] at hx; omega
    · split at hx
      · rw [List.mem_singleton] at hx; omega
      · split at hx
        · simp only [List.mem_cons, List.not_mem_nil, or_false] at hx; omega
        · rw [List.mem_singleton] at hx; omega
  unfold refMap at hx
  split at hx
  · simp at hx
  · split at hx
    · simp at hx
    · split at hx
      · simp only [List.mem_singleton] at hx; omega
      · exact r1 _ (by split <;> omega) x hx
theorem foldP_hi {l : List Int} (h : ∀ c ∈ l, 32 < c ∧ c ≤ 2147483647) : ∀ x ∈ foldP l, 32 < x := by
  have h1 : ∀ x ∈ mapAll l, 32 < x := fun x hx => by
    obtain ⟨c, hc, hx⟩ := List.mem_flatMap.1 hx
    exact mapP_hi (h c hc).1 (h c hc).2 x hx
  have h2 : ∀ (s : List Int) (c : Int), (∀ x ∈ s, 32 < x) → 32 < c → ∀ x ∈ addR s c, 32 < x := by
    intro s c hs hc
    rcases List.eq_nil_or_concat s with rfl | ⟨t, u, rfl⟩
    · intro x hx
      rw [addR_nil, List.mem_singleton] at hx
      subst hx
      exact hc
    · rw [List.concat_eq_append] at hs ⊢
      rw [addR_end]
      split
      · rename_i hne
        intro x hx
        rcases List.mem_append.1 hx with hx | hx
        · exact hs x (by simp [hx])
        · rw [List.mem_singleton] at hx
          have hp := pair_props u c
          subst hx
          omega
      · intro x hx
        rcases List.mem_append.1 hx with hx | hx
        · exact hs x hx
        · rw [List.mem_singleton] at hx
          subst hx
          exact hc
  have h3 : ∀ (l s : List Int), (∀ x ∈ s, 32 < x) → (∀ x ∈ l, 32 < x) → ∀ x ∈ l.foldl addR s, 32 < x := by
    intro l
    induction l with
    | nil => intro s hs _; exact hs
    | cons c l ih => intro s hs hl; exact ih _ (h2 s c hs (hl c (by simp))) (fun x hx => hl x (by simp [hx]))
  exact h3 _ [] (by simp) h1
theorem oneP_hi {p : List Int} {t : ByteArray} (h : oneP p = some t) (hp : ∀ x ∈ p, 32 < x) (hn : p.length ≤ 700) : ∀ b ∈ t.data.toList, 32 < b.toNat := by
  unfold oneP at h
  split at h
  · cases h
  · rename_i hsc
    have hSc : Sc p := fun x hx => by
      have h2 := List.any_eq_false.1 ((Bool.not_eq_true _).mp hsc) x hx
      exact Classical.byContradiction fun hn => h2 (by rw [decide_eq_false hn]; rfl)
    have plain : p.any (fun c => decide (128 ≤ c)) = false → t = runesBytes p → ∀ b ∈ t.data.toList, 32 < b.toNat := by
      intro hpl ht b hb
      have hlo : ∀ x ∈ p, 0 ≤ x ∧ x < 128 := fun x hx => by
        have h2 := List.any_eq_false.1 hpl x hx
        simp at h2
        exact ⟨(hSc x hx).1.1, h2⟩
      rw [ht, rb_low p hlo, list_strOf] at hb
      obtain ⟨x, hx, rfl⟩ := List.mem_map.1 hb
      have := b8_toNat (hlo x hx).1 (by have := hlo x hx; omega)
      have := hp x hx
      omega
    split at h
    · split at h
      · cases h
      · rename_i hpl
        split at h
        · cases h
        · split at h
          · injection h with h
            exact plain (by simpa using hpl) h.symm
          · cases h
    · split at h
      · split at h
        · cases h
        · injection h with h
          obtain ⟨u, h1, h2, h3, _⟩ := encP_parts hSc (by omega)
          intro b hb
          rw [← h, ByteArray.data_append, Array.toList_append, list_strOf, h1] at hb
          rcases List.mem_append.1 hb with hb | hb
          · have : b = 120 ∨ b = 110 ∨ b = 45 := by
              simp only [aceB, List.mem_cons, List.not_mem_nil, or_false] at hb
              rcases hb with e | e | e | e <;> simp [e]
            rcases this with rfl | rfl | rfl <;> decide
          · rcases List.mem_append.1 hb with hb | hb
            · split at hb
              · rcases List.mem_append.1 hb with hb | hb
                · obtain ⟨c, c1, c2, c3⟩ := basics_mem hSc hb
                  have := hp c c1
                  omega
                · rw [List.mem_singleton] at hb; subst hb; decide
              · simp at hb
            · have := h2 b hb
              have h4 := LF_ne this
              omega
      · rename_i hpl
        injection h with h
        exact plain (by simpa using hpl) h.symm

/-! ### Labels put together and cut again -/
theorem splitL_nodot (c : UInt8) : ∀ l : List UInt8, (∀ x ∈ l, x ≠ c) → splitL c l = [l]
  | [], _ => rfl
  | x :: r, h => by
    rw [splitL, if_neg (h x (by simp)), splitL_nodot c r (fun y hy => h y (by simp [hy]))]
theorem splitS_nodot (c : UInt8) (s : ByteArray) (h : ∀ x ∈ s.data.toList, x ≠ c) : splitS c s = [s] := by
  unfold splitS
  rw [splitL_nodot c _ h]
  show [strOf s.data.toList] = [s]
  rw [strOf_list]
theorem splitS_join : ∀ ss : List ByteArray, ss ≠ [] → (∀ t ∈ ss, ∀ b ∈ t.data.toList, b ≠ 46) → splitS 46 (joinP dotB ss) = ss
  | [], h, _ => absurd rfl h
  | [t], _, h => splitS_nodot 46 t (h t (by simp))
  | t :: u :: r, _, h => by
    have hj : joinP dotB (t :: u :: r) = t ++ dotB ++ joinP dotB (u :: r) := joinP_app [t] (u :: r) (by simp) (by simp)
    rw [hj, show t ++ dotB ++ joinP dotB (u :: r) = t ++ (⟨#[46]⟩ : ByteArray) ++ joinP dotB (u :: r) from rfl, splitS_app, splitS_nodot 46 t (h t (by simp)), splitS_join (u :: r) (by simp) (fun t' ht' => h t' (by simp [ht']))]
    rfl
theorem joinP_le (t : ByteArray) (r : List ByteArray) : t.size ≤ (joinP dotB (t :: r)).size := by
  cases r with
  | nil => exact Nat.le_refl _
  | cons u r =>
    have hj : joinP dotB (t :: u :: r) = t ++ dotB ++ joinP dotB (u :: r) := joinP_app [t] (u :: r) (by simp) (by simp)
    rw [hj, ByteArray.size_append, ByteArray.size_append]
    omega
theorem join_ne {ss : List ByteArray} (hne : ss ≠ []) (h : ∀ t ∈ ss, t ≠ ⟨#[]⟩) : joinP dotB ss ≠ ⟨#[]⟩ := by
  cases ss with
  | nil => exact absurd rfl hne
  | cons t r =>
    intro e
    have h1 := joinP_le t r
    rw [e] at h1
    have h2 : t.size = 0 := by
      have : (⟨#[]⟩ : ByteArray).size = 0 := rfl
      omega
    exact h t (by simp) (ba_ext (by simpa using (List.eq_nil_of_length_eq_zero (by rw [size_list]; omega) : t.data.toList = [])))
theorem join_once {ss : List ByteArray} (hne : ss ≠ []) (hall : ∀ t ∈ ss, (∀ b ∈ t.data.toList, Lw b ∧ b ≠ 46) ∧ oneP (asc t) = some t) (hj : joinP dotB ss ≠ ⟨#[]⟩) :
    allP (asc (joinP dotB ss)) = .ok (joinP dotB ss) ∧ foldP (asc (joinP dotB ss)) = asc (joinP dotB ss) ∧ splitP 46 (asc (joinP dotB ss)) = ss.map asc := by
  have hlw := join_Lw ss (fun t ht b hb => ((hall t ht).1 b hb).1)
  have hafx : ∀ x ∈ asc (joinP dotB ss), Fx x := fun x hx => by
    unfold asc at hx
    obtain ⟨b, hb, rfl⟩ := List.mem_map.1 hx
    exact lw_fx (hlw b hb)
  have hfold : foldP (asc (joinP dotB ss)) = asc (joinP dotB ss) := by
    unfold foldP
    rw [fx_mapAll hafx]
    unfold compR
    rw [comp_low (fun x hx => by
      unfold asc at hx
      obtain ⟨b, hb, rfl⟩ := List.mem_map.1 hx
      have := (hlw b hb).1
      omega)]
    rfl
  have hsplit := asc_join ss hne (fun t ht b hb => ((hall t ht).1 b hb).2)
  refine ⟨?_, hfold, hsplit⟩
  unfold allP
  rw [fx_okAll hafx, hfold, hsplit, partsS_of ss (fun t ht => (hall t ht).2)]
  simp only [Bool.true_eq_false, if_false]
  rw [if_neg hj]
theorem join_hi : ∀ ss : List ByteArray, (∀ t ∈ ss, ∀ b ∈ t.data.toList, 32 < b.toNat) → ∀ b ∈ (joinP dotB ss).data.toList, 32 < b.toNat
  | [], _ => by simp [joinP]
  | [t], h => h t (by simp)
  | t :: u :: r, h => by
    have hj : joinP dotB (t :: u :: r) = t ++ dotB ++ joinP dotB (u :: r) := joinP_app [t] (u :: r) (by simp) (by simp)
    rw [hj, ByteArray.data_append, ByteArray.data_append, Array.toList_append, Array.toList_append]
    intro b hb
    rcases List.mem_append.1 hb with hb | hb
    · rcases List.mem_append.1 hb with hb | hb
      · exact h t (by simp) b hb
      · have : b = 46 := by simpa [dotB] using hb
        subst this
        decide
    · exact join_hi (u :: r) (fun t' ht' => h t' (by simp [ht'])) b hb
theorem trimP_mem {l : List ByteArray} {t : ByteArray} (h : t ∈ trimP l) : t ∈ l := by
  unfold trimP at h
  split at h
  · exact List.mem_of_mem_take h
  · exact h
theorem trimP_id {l : List ByteArray} (h : (⟨#[]⟩ : ByteArray) ∉ l) : trimP l = l := by
  unfold trimP
  rw [if_neg]
  rintro ⟨_, h2⟩
  exact h (List.mem_iff_getElem?.2 ⟨_, h2⟩)
theorem sumN_take (l : List ByteArray) (k : Nat) : sumN (l.take k) ≤ sumN l := by
  have : l = l.take k ++ l.drop k := (List.take_append_drop k l).symm
  have happ : ∀ a b : List ByteArray, sumN (a ++ b) = sumN a + sumN b := fun a b => by simp [sumN]
  have h2 := congrArg sumN this
  rw [happ] at h2
  omega
theorem trimP_sum (l : List ByteArray) : sumN (trimP l) ≤ sumN l := by
  unfold trimP
  split
  · exact sumN_take _ _
  · exact Nat.le_refl _

/-! ### A told rule -/
theorem wordL_id {l : List UInt8} (h : ∀ b ∈ l, 32 < b.toNat) : wordL l = l := by
  exact (lowL_no l h).2
theorem wordS_id {s : ByteArray} (h : ∀ b ∈ s.data.toList, 32 < b.toNat) : wordS s = s := by
  unfold wordS
  rw [wordL_id h, strOf_list]
theorem wordS_hi (l : ByteArray) : ∀ b ∈ (wordS l).data.toList, 32 < b.toNat := by
  intro b hb
  unfold wordS at hb
  rw [list_strOf] at hb
  unfold wordL at hb
  have key : ∀ l : List UInt8, ∀ x ∈ l.takeWhile (fun x => decide (32 < x.toNat)), 32 < x.toNat := by
    intro l
    induction l with
    | nil => intro x hx; simp at hx
    | cons y r ih =>
      intro x hx
      rw [List.takeWhile_cons] at hx
      split at hx
      · rename_i h
        rcases List.mem_cons.1 hx with e | hx
        · rw [e]; exact of_decide_eq_true h
        · exact ih x hx
      · simp at hx
  exact key _ b hb
theorem preB_bang (t : ByteArray) : preB t bangB = decide (t.data.toList.head? = some 33) := by
  unfold preB
  cases hd : t.data.toList with
  | nil =>
    have h0 : t.size = 0 := by rw [← size_list, hd]; rfl
    rw [h0]
    rfl
  | cons x r =>
    have h0 : t.size = r.length + 1 := by rw [← size_list, hd]; rfl
    have e1 : bangB.size = 1 := rfl
    have e2 : t.extract 0 1 = ⟨#[x]⟩ := by
      rw [ext_take t 1 (by omega), hd]
      rfl
    rw [e1, e2, h0]
    simp
theorem rule_back {w : ByteArray} (hw : w.size ≤ 300) (hlow : ∀ b ∈ w.data.toList, 32 < b.toNat) {r : List ByteArray × Bool} (hr : ruleP w = some r) :
    (r.1.length ≤ 1000 ∧ ∀ s ∈ r.1, s.size ≤ 20000) ∧ (textP r.1 r.2).size ≤ 82 * w.size + 12 ∧
    (¬ (r.2 = false ∧ signedB (textP r.1 r.2) = true) → wordsP (textP r.1 r.2) = [textP r.1 r.2] ∧ ruleP (textP r.1 r.2) = some r ∧ AllOk (decUP (nameP (textP r.1 r.2)))) := by
  have hnw : (nameP w).size ≤ w.size ∧ ∀ b ∈ (nameP w).data.toList, 32 < b.toNat := by
    unfold nameP
    split
    · refine ⟨by rw [ByteArray.size_extract]; omega, fun b hb => hlow b (by rw [drop_list] at hb; exact List.mem_of_mem_drop hb)⟩
    · exact ⟨Nat.le_refl _, hlow⟩
  generalize hnm : nameP w = nm at hnw
  unfold ruleP at hr
  rw [hnm] at hr
  cases ha : allP (decUP nm) with
  | error n => rw [ha] at hr; cases hr
  | ok d =>
    rw [ha] at hr
    dsimp only at hr
    cases hl : labelsP d with
    | none => rw [hl] at hr; cases hr
    | some ls =>
      rw [hl] at hr
      obtain rfl : (ls, preB w bangB) = r := by simpa using hr
      generalize preB w bangB = ex
      obtain ⟨hok, ss, h2, rfl⟩ := allP_ok ha
      have hln : (decUP nm).length ≤ w.size := Nat.le_trans (decU_len _ _) hnw.1
      have hrng : ∀ c ∈ decUP nm, 32 < c ∧ c ≤ 2147483647 := fun c hc => ⟨decU_hi _ _ hnw.2 c hc, by have := (decU_rng _ _ c hc).2; omega⟩
      have hfl := foldP_len (decUP nm)
      have hfh := foldP_hi hrng
      have hfx := foldP_fx (l := decUP nm) (fun c hc => by have := hrng c hc; omega)
      have hcomp : compR (foldP (decUP nm)) = foldP (decUP nm) := comp_comp (mapAll (decUP nm))
      have hsp := splitP_len 46 (foldP (decUP nm))
      have hsum := parts_sum _ _ (fun p hp => by have := (hsp.2 p hp).1; omega) h2
      have hsum2 := splitP_sum 46 (foldP (decUP nm))
      obtain ⟨g1, g2⟩ := partsS_props _ _ h2
      have hssne := partsS_ne h2
      have hall : ∀ t ∈ ss, ((∀ b ∈ t.data.toList, Lw b ∧ b ≠ 46) ∧ oneP (asc t) = some t) ∧ t.size ≤ 13000 ∧ ∀ b ∈ t.data.toList, 32 < b.toNat := by
        intro t ht
        obtain ⟨p, hp, ho⟩ := g2 t ht
        have hpl := (hsp.2 p hp).1
        obtain ⟨a1, a2, a3⟩ := one_once ho (fun x hx => ⟨hfx x ((hsp.2 p hp).2 x hx), splitP_mem _ p hp x hx⟩) (splitP_comp _ hcomp p hp) (by omega)
        exact ⟨⟨a1, a2⟩, by omega, oneP_hi ho (fun x hx => hfh x ((hsp.2 p hp).2 x hx)) (by omega)⟩
      have hcut := splitS_join ss hssne (fun t ht b hb => ((hall t ht).1.1 b hb).2)
      unfold labelsP at hl
      rw [hcut] at hl
      split at hl
      · cases hl
      · rename_i hix
        injection hl with hl
        have hno : (⟨#[]⟩ : ByteArray) ∉ trimP ss := fun hm => hix ((idxB_mem _ _).2 hm)
        have htne := trimP_ne ss hssne
        have htm : ∀ t ∈ trimP ss, t ∈ ss := fun t ht => trimP_mem ht
        have hts := trimP_sum ss
        have htl := trimP_le ss
        have hid := trimP_id hno
        generalize trimP ss = ts at hl hno htne htm hts htl hid
        subst hl
        have hj := join_ne htne (fun t ht e => hno (e ▸ ht))
        obtain ⟨k1, k2, k3⟩ := join_once htne (fun t ht => (hall t (htm t ht)).1) hj
        have hjlw := join_Lw ts (fun t ht b hb => ((hall t (htm t ht)).1.1 b hb).1)
        have hjhi := join_hi ts (fun t ht => (hall t (htm t ht)).2.2)
        have hjs := joinP_sum ts
        have hback := splitS_join ts htne (fun t ht b hb => ((hall t (htm t ht)).1.1 b hb).2)
        have hlb : labelsP (joinP dotB ts) = some ts.reverse := by
          unfold labelsP
          rw [hback, hid, if_neg (fun h => hno ((idxB_mem _ _).1 h))]
        have hjz : (joinP dotB ts).size ≤ 82 * w.size + 11 := by omega
        have hao : AllOk (asc (joinP dotB ts)) := by
          have hq : ∀ q ∈ splitP 46 (asc (joinP dotB ts)), q.length ≤ 16000 ∧ ∀ t, oneP q = some t → t.size ≤ 500000 := by
            rw [k3]
            intro q hq
            obtain ⟨t, ht, rfl⟩ := List.mem_map.1 hq
            obtain ⟨⟨_, b2⟩, b3, _⟩ := hall t (htm t ht)
            refine ⟨by rw [asc_length]; omega, fun u hu => ?_⟩
            rw [b2] at hu
            injection hu with hu
            rw [← hu]; omega
          refine ⟨by rw [asc_length]; omega, R32.of_mem (fun x hx => ?_), fun _ => ?_, fun s hs => ?_⟩
          · unfold asc at hx
            obtain ⟨b, hb, rfl⟩ := List.mem_map.1 hx
            have := b.toNat_lt
            omega
          · rw [k2]
            exact ⟨by rw [asc_length]; omega, hq⟩
          · rw [k1] at hs
            injection hs with hs
            rw [← hs]; omega
        have hdec : decUP (joinP dotB ts) = asc (joinP dotB ts) := decUP_asc (fun b hb => (hjlw b hb).1)
        have htx : textP ts.reverse ex = if ex then ⟨#[33]⟩ ++ joinP dotB ts else joinP dotB ts := by
          unfold textP
          rw [List.reverse_reverse]
          rfl
        dsimp only
        refine ⟨⟨by rw [List.length_reverse]; omega, fun s hs => by have := (hall s (htm s (by simpa using hs))).2.1; omega⟩, ?_⟩
        rw [htx]
        generalize joinP dotB ts = t0 at hj k1 k2 k3 hjlw hjhi hjs hback hlb hjz hao hdec
        cases ex with
        | true =>
          simp only [if_true]
          have e1 : (⟨#[33]⟩ : ByteArray).size = 1 := rfl
          have hd : (⟨#[33]⟩ ++ t0 : ByteArray).data.toList = 33 :: t0.data.toList := by rw [ByteArray.data_append, Array.toList_append]; rfl
          have hz : (⟨#[33]⟩ ++ t0 : ByteArray).size = t0.size + 1 := by rw [ByteArray.size_append, e1]; omega
          have hpb : preB (⟨#[33]⟩ ++ t0) bangB = true := by rw [preB_bang, hd]; rfl
          have hnp : nameP (⟨#[33]⟩ ++ t0) = t0 := by
            unfold nameP
            rw [if_pos hpb]
            apply ba_ext
            rw [drop_list, hd]
            rfl
          refine ⟨by omega, fun _ => ?_⟩
          have hhi : ∀ b ∈ (⟨#[33]⟩ ++ t0 : ByteArray).data.toList, 32 < b.toNat := by
            rw [hd]
            intro b hb
            rcases List.mem_cons.1 hb with e | hb
            · subst e; decide
            · exact hjhi b hb
          refine ⟨?_, ?_, by rw [hnp, hdec]; exact hao⟩
          · unfold wordsP
            rw [splitS_nodot 10 _ (fun x hx e => by have := hhi x hx; rw [e] at this; revert this; decide), wordsL_cons, wordS_id hhi, if_neg, show wordsL [] = [] from rfl]
            unfold blankW
            rw [Bool.or_eq_true, not_or]
            constructor
            · rw [decide_eq_true_eq]
              intro e
              have := congrArg ByteArray.size e
              rw [hz] at this
              have e0 : (⟨#[]⟩ : ByteArray).size = 0 := rfl
              omega
            · unfold preB
              rw [Bool.and_eq_true, not_and, decide_eq_true_eq, decide_eq_true_eq]
              intro h2 e
              have e2 : twoB.size = 2 := rfl
              rw [e2, ext_take _ 2 (by omega), hd] at e
              have := congrArg (fun b => b.data.toList.head?) e
              simp [strOf] at this
          · unfold ruleP
            rw [hnp, hdec, k1, hpb]
            dsimp only
            rw [hlb]
            rfl
        | false =>
          simp only [Bool.false_eq_true, if_false]
          refine ⟨by omega, fun hns => ?_⟩
          have hsg : signedB t0 = false := by
            cases h : signedB t0 with
            | false => rfl
            | true => exact absurd ⟨trivial, h⟩ hns
          unfold signedB at hsg
          rw [Bool.or_eq_false_iff] at hsg
          have hpb : preB t0 bangB = false := by rw [preB_bang]; exact hsg.1
          have hnp : nameP t0 = t0 := by
            unfold nameP
            rw [hpb, if_neg (by decide)]
          refine ⟨?_, ?_, by rw [hnp, hdec]; exact hao⟩
          · unfold wordsP
            rw [splitS_nodot 10 _ (fun x hx e => by have := hjhi x hx; rw [e] at this; revert this; decide), wordsL_cons, wordS_id hjhi, if_neg, show wordsL [] = [] from rfl]
            unfold blankW
            rw [Bool.or_eq_true, not_or]
            constructor
            · rw [decide_eq_true_eq]
              exact hj
            · unfold preB
              have e2 : twoB.size = 2 := rfl
              rw [e2]
              intro h
              rw [Bool.and_eq_true, decide_eq_true_eq, decide_eq_true_eq] at h
              have h3 := hsg.2
              rw [Bool.and_eq_false_iff, decide_eq_false_iff_not, decide_eq_false_iff_not] at h3
              rcases h3 with h3 | h3
              · omega
              · exact h3 h.2
          · unfold ruleP
            rw [hnp, hdec, k1, hpb]
            dsimp only
            rw [hlb]
            rfl

/-! ### All lines -/
def linesP : List (List ByteArray × Bool) → ByteArray
  | [] => ⟨#[]⟩
  | r :: rs => textP r.1 r.2 ++ ⟨#[10]⟩ ++ linesP rs
theorem linesP_app (a b : List (List ByteArray × Bool)) : linesP (a ++ b) = linesP a ++ linesP b := by
  induction a with
  | nil => show linesP b = ⟨#[]⟩ ++ linesP b; apply ba_ext; simp
  | cons r a ih =>
    rw [List.cons_append, linesP, ih, linesP]
    apply ba_ext
    simp
def costP (rs : List (List ByteArray × Bool)) : Nat := (rs.map fun r => (textP r.1 r.2).size + 1).sum
theorem linesP_size (rs : List (List ByteArray × Bool)) : (linesP rs).size = costP rs := by
  induction rs with
  | nil => rfl
  | cons r rs ih =>
    have e1 : (⟨#[10]⟩ : ByteArray).size = 1 := rfl
    rw [linesP, ByteArray.size_append, ByteArray.size_append, ih, e1]
    simp [costP]
theorem costP_app (a b : List (List ByteArray × Bool)) : costP (a ++ b) = costP a + costP b := by simp [costP]
def wcost (ws : List ByteArray) : Nat := (ws.map fun w => w.size + 1).sum
theorem splitL_cost (c : UInt8) (l : List UInt8) : ((splitL c l).map fun p => p.length + 1).sum = l.length + 1 := by
  induction l with
  | nil => rfl
  | cons x r ih =>
    rw [splitL]
    split
    · rw [List.map_cons, List.sum_cons, ih]; simp; omega
    · cases hs : splitL c r with
      | nil => exact absurd hs (splitL_ne c r)
      | cons p ps =>
        rw [hs] at ih
        simp only [List.map_cons, List.sum_cons, List.length_cons] at ih ⊢
        omega
theorem splitS_cost (c : UInt8) (s : ByteArray) : wcost (splitS c s) = s.size + 1 := by
  unfold wcost splitS
  rw [List.map_map, ← size_list, ← splitL_cost c]
  rfl
theorem wordsL_cost (ls : List ByteArray) : wcost (wordsL ls) ≤ wcost ls := by
  induction ls with
  | nil => exact Nat.le_refl _
  | cons x r ih =>
    have h1 := wordS_size x
    have h2 : wcost (x :: r) = x.size + 1 + wcost r := by simp [wcost]
    rw [wordsL_cons, h2]
    split
    · omega
    · have h3 : wcost (wordS x :: wordsL r) = (wordS x).size + 1 + wcost (wordsL r) := by simp [wcost]
      rw [h3]
      omega
theorem wcost_mem {ws : List ByteArray} {w : ByteArray} (h : w ∈ ws) : w.size + 1 ≤ wcost ws := by
  induction ws with
  | nil => simp at h
  | cons x r ih =>
    have h2 : wcost (x :: r) = x.size + 1 + wcost r := by simp [wcost]
    rcases List.mem_cons.1 h with e | h
    · rw [h2, e]; omega
    · have := ih h
      omega
theorem words_back : ∀ ws : List ByteArray, (∀ w ∈ ws, w.size ≤ 300 ∧ ∀ b ∈ w.data.toList, 32 < b.toNat) →
    costP (ws.filterMap ruleP) ≤ 82 * wcost ws ∧
    ∀ r ∈ ws.filterMap ruleP, (r.1.length ≤ 1000 ∧ ∀ s ∈ r.1, s.size ≤ 20000) ∧ (¬ (r.2 = false ∧ signedB (textP r.1 r.2) = true) → wordsP (textP r.1 r.2) = [textP r.1 r.2] ∧ ruleP (textP r.1 r.2) = some r ∧ AllOk (decUP (nameP (textP r.1 r.2))))
  | [], _ => ⟨Nat.zero_le _, by simp⟩
  | w :: ws, h => by
    obtain ⟨i1, i2⟩ := words_back ws (fun v hv => h v (by simp [hv]))
    obtain ⟨hw, hlow⟩ := h w (by simp)
    have h2 : wcost (w :: ws) = w.size + 1 + wcost ws := by simp [wcost]
    rw [List.filterMap_cons]
    cases hr : ruleP w with
    | none =>
      dsimp only
      exact ⟨by omega, i2⟩
    | some r =>
      obtain ⟨a1, a2, a3⟩ := rule_back hw hlow hr
      dsimp only
      refine ⟨?_, fun q hq => ?_⟩
      · have : costP (r :: ws.filterMap ruleP) = (textP r.1 r.2).size + 1 + costP (ws.filterMap ruleP) := by simp [costP]
        omega
      · rcases List.mem_cons.1 hq with e | hq
        · rw [e]; exact ⟨a1, a3⟩
        · exact i2 q hq
theorem parse_back {s : ByteArray} (hs : s.size ≤ 300) : costP (parseP s) ≤ 24682 ∧
    ∀ r ∈ parseP s, (r.1.length ≤ 1000 ∧ ∀ t ∈ r.1, t.size ≤ 20000) ∧ (¬ (r.2 = false ∧ signedB (textP r.1 r.2) = true) → wordsP (textP r.1 r.2) = [textP r.1 r.2] ∧ ruleP (textP r.1 r.2) = some r ∧ AllOk (decUP (nameP (textP r.1 r.2)))) := by
  have hc := wordsL_cost (splitS 10 s)
  rw [splitS_cost] at hc
  obtain ⟨h1, h2⟩ := words_back (wordsP s) (fun w hw => by
    have := wcost_mem hw
    refine ⟨by unfold wordsP at this; omega, ?_⟩
    unfold wordsP wordsL at hw
    obtain ⟨l, hl, rfl⟩ := List.mem_map.1 (List.mem_filter.1 hw).1
    exact wordS_hi l)
  refine ⟨?_, h2⟩
  unfold parseP
  have : wcost (wordsP s) ≤ 301 := by unfold wordsP; omega
  omega
/-- What all lines are read as. -/
theorem lines_back : ∀ rs : List (List ByteArray × Bool), (∀ r ∈ rs, wordsP (textP r.1 r.2) = [textP r.1 r.2] ∧ ruleP (textP r.1 r.2) = some r ∧ AllOk (decUP (nameP (textP r.1 r.2)))) →
    parseP (linesP rs) = rs ∧ ∀ w ∈ wordsP (linesP rs), w.size ≤ (linesP rs).size ∧ AllOk (decUP (nameP w))
  | [], _ => by
    have e : wordsP (linesP []) = [] := by
      show wordsP ⟨#[]⟩ = []
      rfl
    refine ⟨by unfold parseP; rw [e]; rfl, by rw [e]; simp⟩
  | r :: rs, h => by
    obtain ⟨i1, i2⟩ := lines_back rs (fun q hq => h q (by simp [hq]))
    obtain ⟨a1, a2, a3⟩ := h r (by simp)
    have hz : (linesP (r :: rs)).size = (textP r.1 r.2).size + 1 + (linesP rs).size := by
      have e1 : (⟨#[10]⟩ : ByteArray).size = 1 := rfl
      rw [linesP, ByteArray.size_append, ByteArray.size_append, e1]
    rw [hz, linesP]
    refine ⟨?_, ?_⟩
    · rw [parseP_app, i1]
      unfold parseP
      rw [a1]
      simp [a2]
    · rw [wordsP_app, a1]
      intro w hw
      rcases List.mem_append.1 hw with hw | hw
      · rw [List.mem_singleton] at hw
        rw [hw]
        exact ⟨by omega, a3⟩
      · have := i2 w hw
        exact ⟨by omega, this.2⟩
end Go.Proofs.YtkggplnigjlegaaDoor

/- RulesBack: the law's walk. -/
set_option linter.unusedVariables false
set_option linter.unusedSimpArgs false
namespace Go.Proofs.YtkggplnigjlegaaDoor
open Go.RowKit Go.Gp

theorem costP_take (rs : List (List ByteArray × Bool)) (i : Nat) : costP (rs.take i) ≤ costP rs := by
  have h : rs = rs.take i ++ rs.drop i := (List.take_append_drop i rs).symm
  have h2 : costP rs = costP (rs.take i) + costP (rs.drop i) := by
    conv => lhs; rw [h]
    rw [costP_app]
  omega
set_option maxRecDepth 100000 in
theorem rulesBack_spec (s : ByteArray) (w0 : World) (m0 : List Res) : PureC Tryd.prog 4 [.string s] w0 m0 (.bool true) := by
  by_cases hs : s.size ≤ 300
  · obtain ⟨hcost, hback⟩ := parse_back hs
    refine Ct.of Tryd.func4 rfl (by kernel_rfl) rfl ?_
    (refine c_sq fun k7 h7 => c_rg <| r_as rfl rfl <| r_nx h7 <| c_sq fun k9 h9 => c_rg ?_; rotate_left)
    refine WX.pure rfl rfl (awake15_spec _ _) rfl rfl ?_
    (refine r_as rfl rfl <| r_nx h9 <| c_sq fun k11 h11 => c_sq fun k13 h13 => c_rg <| r_mv rfl rfl <| r_lS Tryd.underlying9 rfl rfl <| r_gtF rfl rfl rfl (by omega) <| r_nx h13 <| c_cF rfl <| c_sk <| WE.then_n h11 <| c_sq fun k15 h15 => c_rg <| r_mv rfl rfl ?_; rotate_left)
    refine WX.call (m1 := []) (m2 := _) rfl rfl rfl (parse_spec s (by omega) (words_ok (by omega)) _ _) rfl rfl (fun x hx => ?_)
    obtain ⟨da, pA, pc⟩ := x
    dsimp only at hx
    have hls := parse_lens (s := s) (by omega)
    have hda : da.length ≤ 5001 := by have := congrArg List.length hx; simp at this; omega
    rw [← hx] at hcost hback hls
    have hpm : ∀ k, ((da.take k).map (·.2)) = (da.map (·.2)).take k := fun k => by rw [List.map_take]
    refine WX.formM (A := pA) (c := pc) (n := da.length) (xs := rulesV da) (e := 24) (sz := 2) (by simp [PM]) (fun hfa => ?_)
    (refine r_as rfl rfl <| r_nx h15 <| c_sq fun k28 h28 => c_rg <| r_as rfl rfl <| r_nx h28 <| c_sq fun k30 h30 => c_sq fun k32 h32 => c_rg <| r_as rfl rfl <| r_nx h32 <| c_bl ?_; rotate_left)
    refine WC.loop (α := Nat) (fun i => [(3, .bool true), (4, .slice pA da.length pc), (5, .string (linesP ((da.take i).map (·.2)))), (6, .int .i64 i)]) (fun _ => PM ⟨da, pA, pc⟩) (fun i => i ≤ da.length ∧ ∀ d ∈ da.take i, ¬ (d.2.2 = false ∧ signedB (textP d.2.1 d.2.2) = true)) (fun i => da.length - i) 0 ⟨by omega, by simp⟩ ⟨rfl, rfl, rfl, rfl, trivial⟩ (fun w hw => by rw [List.append_nil] at hw; exact hw) ?_
    rintro i ⟨hi, hgood⟩
    by_cases hlt : i < da.length
    · obtain ⟨ga, rfl⟩ := hfa (by omega)
      obtain ⟨⟨b1, ls, ex⟩, hxi⟩ : ∃ x, da[i]? = some x := ⟨_, List.getElem?_eq_getElem hlt⟩
      obtain ⟨hx1, hx2⟩ := rulesV_at da i _ hxi
      dsimp only at hx1 hx2
      have hmem : (⟨b1, ls, ex⟩ : Nat × List ByteArray × Bool) ∈ da := List.mem_iff_getElem?.2 ⟨i, hxi⟩
      obtain ⟨⟨hb1, hb2⟩, hb3⟩ := hback (ls, ex) (List.mem_map.2 ⟨_, hmem, rfl⟩)
      dsimp only at hb1 hb2 hb3
      have htk : da.take (i + 1) = da.take i ++ [⟨b1, ls, ex⟩] := by rw [List.take_add_one, hxi]; rfl
      have hln : linesP ((da.take (i + 1)).map (·.2)) = linesP ((da.take i).map (·.2)) ++ textP ls ex ++ ⟨#[10]⟩ := by
        rw [htk, List.map_append, linesP_app]
        apply ba_ext
        simp [linesP]
      have hz1 := linesP_size ((da.take (i + 1)).map (·.2))
      have hz2 := costP_take (da.map (·.2)) (i + 1)
      rw [← hpm] at hz2
      have e10 : (⟨#[10]⟩ : ByteArray).size = 1 := rfl
      have hz3 : (linesP ((da.take i).map (·.2))).size + (textP ls ex).size + 1 ≤ 24682 := by
        rw [hln, ByteArray.size_append, ByteArray.size_append, e10] at hz1
        omega
      have hlab : ∀ mm, Rd w0 (PM ⟨da, some ⟨ga, 0, none⟩, pc⟩ ++ mm) (some ⟨b1, 0, none⟩) (strsV ls) := fun mm => by
        refine Rd.mem (e := 9) ?_
        have h1 : Res.blk b1 (strsV ls) 9 ∈ labsM da := List.mem_map.2 ⟨_, hmem, rfl⟩
        simp only [PM, List.mem_append, List.mem_cons]
        exact .inl (.inr h1)
      have hrow : ∀ mm, Rd w0 (PM ⟨da, some ⟨ga, 0, none⟩, pc⟩ ++ mm) (some ⟨ga, 0, none⟩) (rulesV da) := fun mm => Rd.memN (c := pc) (n := da.length) (e := 24) (sz := 2) (by simp [PM])
      have hnext : ¬ (ex = false ∧ signedB (textP ls ex) = true) → ∀ d ∈ da.take (i + 1), ¬ (d.2.2 = false ∧ signedB (textP d.2.1 d.2.2) = true) := fun hg d hd => by
        rw [htk] at hd
        rcases List.mem_append.1 hd with hd | hd
        · exact hgood d hd
        · rw [List.mem_singleton] at hd
          rw [hd]; exact hg
      cases ex with
      | true =>
        (refine c_sq fun k68 h68 => c_sq fun k70 h70 => c_rg <| r_mv rfl rfl <| r_mv rfl rfl <| r_ls Tryd.underlying27 rfl rfl <| r_ltT rfl rfl rfl (by omega) <| r_nx h70 <| c_cT rfl <| c_sk <| WE.then_n h68 <| c_sq fun k72 h72 => c_bl <| c_sq fun k74 h74 => c_rg <| r_mv rfl rfl <| r_mv rfl rfl ?_; rotate_left)
        refine r_iaN (sz := 2) (2 * i) Tryd.underlying27 (by kernel_rfl) rfl rfl rfl (by omega) (by omega) (by omega) ?_
        refine r_lm (xs := rulesV da) (cs := ruleV (b1, ls, true)) Tryd.underlying24 rfl (by kernel_rfl) rfl rfl (hrow _) (fun j v hj => by rcases j with _ | _ | j; (exact hx1.trans hj); (exact hx2.trans hj); (simp at hj)) ?_
        refine WX.pure rfl rfl (text_spec (some ⟨b1, 0, none⟩) ls.length ls true (by omega) (fun t ht => by have := hb2 t ht; omega) _ _ (hlab _) (fun _ => rfl)) rfl rfl ?_
        (refine r_as rfl rfl <| r_nx h74 <| c_sq fun k76 h76 => c_sq fun k78 h78 => c_rg <| r_mv rfl rfl <| r_mv rfl rfl ?_; rotate_left)
        refine r_iaN (sz := 2) (2 * i) Tryd.underlying27 (by kernel_rfl) rfl rfl rfl (by omega) (by omega) (by omega) ?_
        refine r_fa (2 * i + 1) rfl (fun w => by kernel_rfl) rfl ?_
        refine r_lg Tryd.underlying4 rfl rfl rfl (hrow _) hx2 ?_
        (refine r_no rfl rfl rfl <| r_mv rfl rfl <| r_sk rfl rfl <| r_sk rfl rfl <| r_pF rfl rfl rfl <| r_nx h78 <| c_cF rfl <| c_sk <| WE.then_n h76 <| c_rg <| r_mv rfl rfl <| r_mv rfl rfl ?_; rotate_left)
        refine r_sad rfl rfl rfl (by omega) ?_
        (rotate_left)
        refine r_sad (u := ⟨#[10]⟩) rfl rfl rfl (by rw [ByteArray.size_append, e10]; omega) ?_
        (refine r_as rfl rfl <| r_nl <| WE.blk_n <| WE.then_n h72 <| c_rg <| r_mv rfl rfl <| r_ad rfl rfl rfl (wadd64 (by omega)) <| r_as rfl rfl <| r_nl ?_; rotate_left)
        exact WE.back (i + 1) ⟨by omega, hnext (fun h => by cases h.1)⟩ (by omega) ⟨rfl, rfl, by rw [hln]; rfl, rfl, trivial⟩ Mem.keep
      | false =>
        (refine c_sq fun k68 h68 => c_sq fun k70 h70 => c_rg <| r_mv rfl rfl <| r_mv rfl rfl <| r_ls Tryd.underlying27 rfl rfl <| r_ltT rfl rfl rfl (by omega) <| r_nx h70 <| c_cT rfl <| c_sk <| WE.then_n h68 <| c_sq fun k72 h72 => c_bl <| c_sq fun k74 h74 => c_rg <| r_mv rfl rfl <| r_mv rfl rfl ?_; rotate_left)
        refine r_iaN (sz := 2) (2 * i) Tryd.underlying27 (by kernel_rfl) rfl rfl rfl (by omega) (by omega) (by omega) ?_
        refine r_lm (xs := rulesV da) (cs := ruleV (b1, ls, false)) Tryd.underlying24 rfl (by kernel_rfl) rfl rfl (hrow _) (fun j v hj => by rcases j with _ | _ | j; (exact hx1.trans hj); (exact hx2.trans hj); (simp at hj)) ?_
        refine WX.pure rfl rfl (text_spec (some ⟨b1, 0, none⟩) ls.length ls false (by omega) (fun t ht => by have := hb2 t ht; omega) _ _ (hlab _) (fun _ => rfl)) rfl rfl ?_
        (refine r_as rfl rfl <| r_nx h74 <| c_sq fun k76 h76 => c_sq fun k78 h78 => c_rg <| r_mv rfl rfl <| r_mv rfl rfl ?_; rotate_left)
        refine r_iaN (sz := 2) (2 * i) Tryd.underlying27 (by kernel_rfl) rfl rfl rfl (by omega) (by omega) (by omega) ?_
        refine r_fa (2 * i + 1) rfl (fun w => by kernel_rfl) rfl ?_
        refine r_lg Tryd.underlying4 rfl rfl rfl (hrow _) hx2 ?_
        (refine r_no rfl rfl rfl <| r_mv rfl rfl <| r_mv rfl rfl ?_; rotate_left)
        refine WX.pure rfl rfl (signed_spec (textP ls false) _ _) rfl rfl ?_
        cases hsg : signedB (textP ls false) with
        | true =>
          (refine r_pT rfl rfl rfl <| r_nx h78 <| c_cT rfl <| c_sq fun k81 h81 => c_rg <| r_mv rfl rfl <| r_as rfl rfl <| r_nx h81 <| c_rt <| WE.then_r <| WE.blk_r <| WE.then_r <| WE.then_r <| WE.blk_r <| WE.then_r ?_; rotate_left)
          exact WE.ret1 () rfl rfl rfl trivial Mem.drop
        | false =>
          (refine r_pT rfl rfl rfl <| r_nx h78 <| c_cF rfl <| c_sk <| WE.then_n h76 <| c_rg <| r_mv rfl rfl <| r_mv rfl rfl ?_; rotate_left)
          refine r_sad rfl rfl rfl (by omega) ?_
          (rotate_left)
          refine r_sad (u := ⟨#[10]⟩) rfl rfl rfl (by rw [ByteArray.size_append, e10]; omega) ?_
          (refine r_as rfl rfl <| r_nl <| WE.blk_n <| WE.then_n h72 <| c_rg <| r_mv rfl rfl <| r_ad rfl rfl rfl (wadd64 (by omega)) <| r_as rfl rfl <| r_nl ?_; rotate_left)
          exact WE.back (i + 1) ⟨by omega, hnext (fun h => by rw [hsg] at h; cases h.2)⟩ (by omega) ⟨rfl, rfl, by rw [hln]; rfl, rfl, trivial⟩ Mem.keep
    · have hie : i = da.length := by omega
      subst hie
      rw [List.take_length] at hgood
      have htl : da.take da.length = da := List.take_length
      obtain ⟨hlb, hlw⟩ := lines_back (da.map (·.2)) (fun r hr => by
        obtain ⟨d, hd, rfl⟩ := List.mem_map.1 hr
        exact (hback d.2 hr).2 (hgood d hd))
      have hlz := linesP_size (da.map (·.2))
      rw [htl]
      (refine c_sq fun k42 h42 => c_sq fun k44 h44 => c_rg <| r_mv rfl rfl <| r_mv rfl rfl <| r_ls Tryd.underlying27 rfl rfl <| r_ltF rfl rfl rfl (by omega) <| r_nx h44 <| c_cF rfl <| c_ex <| WE.then_x <| WE.then_x <| WE.blk_x <| WE.then_n h30 <| c_sq fun k46 h46 => c_rg <| r_mv rfl rfl <| r_mv rfl rfl <| r_mv rfl rfl ?_; rotate_left)
      refine WX.call (m1 := []) (m2 := _) rfl rfl rfl (parse_spec _ (by omega) (fun w hw => ⟨by have := (hlw w hw).1; omega, (hlw w hw).2⟩) _ _) rfl rfl (fun z hz => ?_)
      obtain ⟨dz, zA, zc⟩ := z
      dsimp only at hz
      have hsame : dz.map (·.2) = da.map (·.2) := hz.trans hlb
      have hdz : dz.length ≤ 5001 := by have := congrArg List.length hsame; simp at this; omega
      refine WX.formM (A := zA) (c := zc) (n := dz.length) (xs := rulesV dz) (e := 24) (sz := 2) (by simp [PM]) (fun hfz => ?_)
      (refine r_mv rfl rfl ?_; rotate_left)
      refine WX.pure rfl rfl (sameR_spec zA pA zc pc dz da hsame (by omega) (fun d hd => hls.2 d.2 (by rw [← hsame]; exact List.mem_map.2 ⟨d, hd, rfl⟩)) _ _ (Rd.memN (c := zc) (n := dz.length) (e := 24) (sz := 2) (by simp [PM])) (Rd.memN (c := pc) (n := da.length) (e := 24) (sz := 2) (by simp [PM])) hfz hfa ?_ ?_) rfl rfl ?_
      · intro d hd
        refine Rd.mem (e := 9) ?_
        have h1 : Res.blk d.1 (strsV d.2.1) 9 ∈ labsM dz := List.mem_map.2 ⟨d, hd, rfl⟩
        simp only [PM, List.mem_append, List.mem_cons]
        exact .inl (.inl (.inr h1))
      · intro d hd
        refine Rd.mem (e := 9) ?_
        have h1 : Res.blk d.1 (strsV d.2.1) 9 ∈ labsM da := List.mem_map.2 ⟨d, hd, rfl⟩
        simp only [PM, List.mem_append, List.mem_cons]
        exact .inl (.inr (.inr h1))
      (refine r_pT rfl rfl rfl <| r_as rfl rfl <| r_nx h46 <| c_rt ?_; rotate_left)
      exact WE.ret1 () rfl rfl rfl trivial Mem.drop
  · refine Ct.of Tryd.func4 rfl (by kernel_rfl) rfl ?_
    (refine c_sq fun k5 h5 => c_rg <| r_as rfl rfl <| r_nx h5 <| c_sq fun k7 h7 => c_rg ?_; rotate_left)
    refine WX.pure rfl rfl (awake15_spec _ _) rfl rfl ?_
    (refine r_as rfl rfl <| r_nx h7 <| c_sq fun k9 h9 => c_sq fun k11 h11 => c_rg <| r_mv rfl rfl <| r_lS Tryd.underlying9 rfl rfl <| r_gtT rfl rfl rfl (by omega) <| r_nx h11 <| c_cT rfl <| c_sq fun k13 h13 => c_rg <| r_mv rfl rfl <| r_as rfl rfl <| r_nx h13 <| c_rt <| WE.then_r ?_; rotate_left)
    exact WE.ret1 () rfl rfl rfl trivial Mem.drop
end Go.Proofs.YtkggplnigjlegaaDoor

/- For every string, gatepostlaw15.RulesBack returns true, and its argument reads as it did. Condition: as the given card has it: the variables unicode/utf8.first and unicode/utf8.acceptRanges are tied to the program's text. -/
namespace Go.Proofs.YtkggplnigjlegaaDoor
open Go.ChangeShapes Go.WideShapes Go.ChangeAt Go.RowKit Go.Gp

theorem own_rulesBack : ownKnob Tryd.prog.godebug = none := by kernel_rfl
theorem laid_rulesBack : laidOutB Tryd.prog = true := by kernel_rfl
set_option maxRecDepth 1000000 in
theorem func_rulesBack : Tryd.prog.funcs[4]? = some Tryd.f4 := rfl
set_option maxRecDepth 100000 in
theorem rulesBack_lifted (os : Os) (started : os.Started) (H : Type) (enc : TypeId × Value → H) :
    ReturnsInHanded {} Tryd.checked os 4 .any (fun w args => (Rows.rulesBackSpec.pre enc Tryd.prog Tryd.f4 [] false w args ∧ laidMetH Tryd.prog Rows.rulesBackRow.laid w) ∧ sizedMet enc Tryd.prog Tryd.f4 (OpenSpec.ofChange Rows.rulesBackSpec) false w args)
      (Rows.rulesBackSpec.post enc Tryd.prog Tryd.f4 false true false false) := by
  refine returnsInHanded_of_change_and (C := Tryd.checked) (X := fun w _ => laidMetH Tryd.prog Rows.rulesBackRow.laid w) (fun _ _ _ hh h => h.of_heap hh) own_rulesBack started (by kernel_rfl) func_rulesBack
    (ChangeSpec.witness_shaped (enc := enc) (C := Tryd.checked) (os := os) (X := fun w _ => laidMetH Tryd.prog Rows.rulesBackRow.laid w) false (World.laidAll Tryd.prog os Rows.rulesBackRow.laid) #[.string ⟨#[]⟩] 8 (World.laidAll_os _ _ _)
      (World.shaped_of_ZipB (by kernel_rfl) (by kernel_rfl)) (by kernel_rfl) (by kernel_rfl) (by kernel_rfl)
      (by rw [MakeChecks.laidMetH_plain _ _ _ (by kernel_rfl)]; exact laidMet_laidAll _ (by kernel_rfl) (by kernel_rfl))) ?_
  intro W base args ds gs before hval0 hW _ _ hL _
  have hval1 : ∀ (j : Nat) t v, Tryd.f4.params[j]? = some t → args[j]? = some v → Value.okWide Tryd.prog W .any base t v := hval0
  have hval : ∀ (j : Nat) t v, Tryd.f4.params[j]? = some t → args[j]? = some v → Value.okWide Tryd.prog W .any 0 t v := hval1
  have hW' := hW
  obtain ⟨p, q, hA0, hV, rfl, hfz, hnd⟩ := hW
  have hA : DataW.TrodAll enc Tryd.prog W 0 (fun _ => true) true [9] args.toList ds p := hA0
  obtain ⟨v0, d0, rfl, rfl, h0⟩ := trodAll_one hA
  obtain ⟨rfl, rfl⟩ := trodVars_none hV
  obtain ⟨a0, rfl, rfl, rfl, ha0⟩ := Go.ChangeMaps.open_string Tryd.underlying9 (hval 0 9 v0 rfl rfl) h0
  refine ((rulesBack_spec a0 W []).calls).mono fun e W' hh => ?_
  obtain ⟨he, hb⟩ := hh
  exact ⟨_, he, post_true laid_rulesBack (by kernel_rfl) rfl rfl rfl hW' hb rfl rfl rfl⟩

theorem rulesBack_holds : Rows.RulesBackSaid :=
  OpenClaim.holds_of_wide 4 Tryd.f4 rfl rfl rfl rfl rfl rfl rfl ⟨rfl, rfl, rfl, rfl, rfl⟩ rfl rfl rfl rfl rfl (by kernel_rfl) func_rulesBack (by kernel_rfl)
    (of_decide_eq_true (by kernel_rfl)) (by unfold Func.isWrapper; first | (rw [if_pos (by decide +kernel)]; kernel_rfl) | (rw [if_neg (by decide +kernel)]; exact ⟨rfl, rfl⟩))
    (fun os started H enc _ => rulesBack_lifted os started H enc)

/-- THE TIED CARD. -/
theorem rulesBack_card : Rows.RulesBackCardSaid :=
  Claim7.holds_tied_plain_at .later [] [.data, .pinned] true Rows.rulesBackCard.stood.harness false
    rulesBack_holds (fun _ h => by cases h) (by kernel_rfl) (fun _ h => by cases h) rulesBack_row_tie rfl ⟨rfl, rfl⟩ (by kernel_rfl) rfl
    (fun f fn hf hfn => by
      obtain rfl : f = 4 := Option.some.inj ((show Tryd.prog.funcNamed "gatepost/gatepostlaw15.RulesBack" = some 4 by kernel_rfl).symm.trans hf) |>.symm
      obtain rfl : fn = Tryd.f4 := (Option.some.inj (func_rulesBack.symm.trans hfn)).symm
      exact ⟨by kernel_rfl, fun j t ht => by
        have ht' : ([9] : List TypeId)[j]? = some t := by
          have h2 : Tryd.f4.params.toList[j]? = some t := by simpa using ht
          exact h2
        have h3 : t = 9 := by
          have := List.mem_of_getElem? ht'
          simpa using this
        subst h3
        exact (show Tryd.prog.wantsStandIn 9 = false by kernel_rfl)⟩)
    (by kernel_rfl)
end Go.Proofs.YtkggplnigjlegaaDoor
