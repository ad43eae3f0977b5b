/- For every api.Rule, gatepostlaw15.RulesTexts returns true, and its argument reads as it did. Condition: as the given card has it: the variables unicode/utf8.first and unicode/utf8.acceptRanges are tied to the program's text. -/
import Derived.ProofKit
import Derived.ChangeArms
import Derived.Lib.SmallJoins
import Derived.SliceStrings
import Derived.Test.YtkggplnigjlegaaDoorCards
import Derived.Test.YtkggplnigjlegaaDoorTie
import Derived.Lay
import Derived.LaidLaws
import Derived.LaidHandle
import Derived.Stop.Joined
import Derived.SevenTiedAt
import Derived.Test.YtkggplnigjlegaaDoorM3
/- From a contract to the given row: what reads as it did, and the answer true. -/
namespace Go.Gp
open Go.ChangeShapes Go.WideShapes Go.ChangeAt Go.RowKit

section
variable {H : Type} {enc : TypeId × Value → H} {P : Program}

theorem trodAll_stays (hl : laidOutB P = true) {W W' : World} (hb : Below W.heap.size W W') {sp' : Nat → Bool} :
    ∀ {ts : List TypeId} {vs : List Value} {ds : List (DataW H)} {ps : List MemPlace}, (ts.all fun t => P.readableRec t && decide (t < P.types.size)) = true → (∀ p ∈ ps, p.block < W.heap.size) → (∀ p ∈ ps, sp' p.block = true) →
      DataW.TrodAll enc P W 0 (fun _ => true) true ts vs ds ps → DataW.TrodAll enc P W' 0 sp' true ts vs ds ps
  | [], _, _, _, _, _, _, h => by
    obtain ⟨rfl, rfl, rfl⟩ := trodAll_nil h
    exact rfl
  | t :: ts, _, _, _, ha, hlt, hsp, h => by
    obtain ⟨v, vs', d, ds', p, q, rfl, rfl, rfl, h1, h2⟩ := trodAll_cons h
    simp only [List.all_cons, Bool.and_eq_true, decide_eq_true_eq] at ha
    refine ⟨p, q, WideElems.Trod_stays hl ha.1.1 ha.1.2 h1 (fun x hx => hb.same (hlt x (by simp [hx]))) (fun x hx => hsp x (by simp [hx])), ?_, rfl⟩
    exact trodAll_stays hl hb ha.2 (fun x hx => hlt x (by simp [hx])) (fun x hx => hsp x (by simp [hx])) h2

/-- The call returned true, and nothing that was there has turned. -/
theorem post_true {f : Func} {s : ChangeSpec} {apart fresh handsOn : Bool} {W W' : World} {args : Array Value} {ds gs : List (DataW H)} {before : List MemPlace} {tb : TypeId}
    (hl : laidOutB P = true) (hp : (f.params.toList.all fun t => P.readableRec t && decide (t < P.types.size)) = true) (hv : s.vars = []) (hr : f.resultTypes = #[tb]) (htb : P.underlying tb = some .bool)
    (hW : DataW.Whole enc P f.params.toList s.vars apart W args.toList ds gs before) (hb : Below W.heap.size W W')
    (hs1 : (s.fn H (ds ++ gs)).results = [.lit (.bool true)]) (hs2 : (s.fn H (ds ++ gs)).args = ds) (hs3 : (s.fn H (ds ++ gs)).vars = []) :
    s.post enc P f apart fresh handsOn false W args (.bool true) W' := by
  have hlt := hW.lt
  have hW0 := hW
  obtain ⟨p, q, h1, h2, e, hz, hn⟩ := hW
  rw [hv] at h2
  obtain ⟨rfl, rfl⟩ := trodVars_none h2
  rw [List.append_nil] at e
  subst e
  refine ⟨ds, [], before, [], before, [], hW0, ?_, ?_, ?_, World.keptBut_mono (fun x hx => ⟨hx, .inr (.inl hx)⟩) (hb.frame _), fun h => by cases h⟩
  · rw [hr, hs1]
    exact trodAll_mk1 (shut_bool htb true)
  · rw [hs2]
    exact trodAll_stays hl hb hp hlt (fun x hx => by simpa using hlt x hx) h1
  · rw [hs3, hv]
    rfl

/-- A slice of runes is opened. -/
theorem open_runes {t e : TypeId} {W : World} {v : Value} {d : DataW H} {ps : List MemPlace} (ht : P.underlying t = some (.slice e)) (he : P.underlying e = some (.int .i32)) (hc : P.cellsOf e = 1) (hf : Value.okWide P W .any 0 t v)
    (h : DataW.Trod enc P W 0 (fun _ => true) true t v d ps) : ∃ (A : Option Addr) (c : Nat) (l : List Int), v = .slice A l.length c ∧ Rd W [] A (l.map (.int .i32 ·)) ∧ (∀ n ∈ l, -2147483648 ≤ n ∧ n ≤ 2147483647) ∧ l.length ≤ c ∧ c ≤ maxLen := by
  obtain ⟨A, n, c, rfl⟩ := okWide_slice ht hf
  obtain ⟨fuel, hd⟩ := h
  rcases open_ints ht he hc hd with ⟨h1, _⟩ | ⟨a, len, cap, zs, h1, _, hl, hm, hz, _, hcell, hwf⟩
  · simp [Value.cells] at h1
    obtain ⟨rfl, rfl, rfl⟩ := h1
    exact ⟨none, 0, [], rfl, Rd.nil _, by simp, by simp, by simp⟩
  · simp [Value.cells] at h1
    obtain ⟨rfl, rfl, rfl⟩ := h1
    rw [if_pos rfl] at hz
    refine ⟨some a, c, zs.take n, by simp [hz, hl], ?_, fun i hi => ?_, by simp [hz, hl], hm⟩
    · unfold Rd
      intro w hw j u hj
      refine ⟨a, rfl, ?_⟩
      have hj' := (List.getElem?_eq_some_iff.1 hj)
      obtain ⟨hj1, hj2⟩ := hj'
      simp at hj1
      have hcj := hcell j (by omega)
      have hblk : (a.add j).block < W.heap.size := World.block_lt_of_cell? W _ hcj
      rw [hw.below.cell hblk, hcj]
      rw [← hj2]
      have : j < zs.length := by omega
      simp [this]
    · have := hwf i (List.mem_of_mem_take hi)
      simp [Lit.wf] at this
      exact this
end

/-- A cell that is known at the start can be read. -/
theorem rd_of_cell {W : World} {g : Nat} {v : Value} (h : W.cell? ⟨g, 0, none⟩ = some v) : Rd W [] (some ⟨g, 0, none⟩) [v] := by
  unfold Rd
  intro w hw j u hj
  obtain ⟨hj1, hj2⟩ := List.getElem?_eq_some_iff.1 hj
  have h0 : j = 0 := by simpa using hj1
  subst h0
  refine ⟨_, rfl, ?_⟩
  rw [Addr.add_zero', hw.below.cell (World.block_lt_of_cell? W _ h), h]
  exact congrArg some hj2

/-- A contract, as the row wants it. -/
theorem PureC.calls {P : Program} {f : FuncId} {args : List Value} {W : World} {v : Value} (h : PureC P f args W [] v) : Calls P f args.toArray W fun e w' => e = .returned v ∧ Below W.heap.size W w' := by
  unfold PureC Ct at h
  refine (h.2 W (Mem.refl W)).mono fun e w' hh => ?_
  unfold sp at hh
  obtain ⟨_, _, he, hm⟩ := hh
  exact ⟨he, hm.below⟩
end Go.Gp

/- RulesTexts: ref15.Text, ref15.Few at one rule, the law's walk. -/
set_option linter.unusedVariables false
set_option linter.unusedSimpArgs false
namespace Go.Proofs.YtkggplnigjlegaaDoor
open Go.RowKit Go.Gp

/-- The text as the reference puts it together: labels i, i - 1, .. 0. -/
def rtxt (l : List ByteArray) : Nat → ByteArray → ByteArray
  | 0, out => out
  | i + 1, out => rtxt l i (if 0 < i then out ++ l.getD i ⟨#[]⟩ ++ ⟨#[46]⟩ else out ++ l.getD i ⟨#[]⟩)
set_option maxRecDepth 100000 in
theorem rtext_spec (A : Option Addr) (c : Nat) (l : List ByteArray) (ex : Bool) (hn : l.length ≤ 900) (hs : ∀ s ∈ l, s.size ≤ 500000) (w0 : World) (m0 : List Res) (hA : Rd w0 m0 A (strsV l)) (hA2 : 0 < l.length → A.isSome = true) :
    PureC Tryd.prog 9 [.agg #[.slice A l.length c, .bool ex]] w0 m0 (.string (rtxt l l.length (if ex then ⟨#[33]⟩ else ⟨#[]⟩))) := by
  cases ex
  · show PureC _ _ _ _ _ (.string (rtxt l l.length ⟨#[]⟩))
    refine Ct.of Tryd.func9 rfl (by kernel_rfl) rfl ?_
    (refine c_sq fun k11 h11 => c_rg <| r_bx rfl rfl rfl (fun _ => ?_); refine r_as rfl rfl <| r_nx h11 <| c_sq fun k14 h14 => c_rg <| r_as rfl rfl <| r_nx h14 <| c_sq fun k16 h16 => c_sq fun k18 h18 => c_rg <| r_fa 1 rfl (fun _ => by kernel_rfl) rfl <| r_lb 0 Tryd.underlying4 rfl rfl rfl rfl rfl <| r_nx h18 <| c_cF rfl <| c_sk <| WE.then_n h16 <| c_sq fun k20 h20 => c_sq fun k22 h22 => c_rg <| r_fa 0 rfl (fun _ => by kernel_rfl) rfl <| r_lb 0 Tryd.underlying22 rfl rfl rfl rfl rfl <| r_ls Tryd.underlying22 rfl rfl <| r_su rfl rfl rfl (wsub64 (by omega)) <| r_as rfl rfl <| r_nx h22 <| c_bl ?_; rotate_left)
    rename_i b1
    refine WC.loop (α := Nat × ByteArray) (fun x => [(1, .pointer (some ⟨b1, 0, none⟩)), (3, .string x.2), (4, .int .i64 ((x.1 : Nat) - 1))]) (fun _ => [.blk b1 [.slice A l.length c, .bool false] 24])
      (fun x => x.1 ≤ l.length ∧ rtxt l x.1 x.2 = rtxt l l.length ⟨#[]⟩ ∧ x.2.size ≤ 1 + (l.length - x.1) * 500001) (fun x => x.1) (l.length, ⟨#[]⟩) ⟨Nat.le_refl _, rfl, Nat.le_trans (show (⟨#[]⟩ : ByteArray).size ≤ 1 by decide) (Nat.le_add_right _ _)⟩ ⟨rfl, rfl, rfl, trivial⟩ Mem.keep ?_
    rintro ⟨k, out⟩ ⟨h1, h2, h3⟩
    dsimp only at h1 h2 h3 ⊢
    cases k with
    | zero =>
      (refine c_sq fun k29 h29 => c_sq fun k31 h31 => c_rg <| r_mv rfl rfl <| r_geF rfl rfl rfl (by omega) <| r_nx h31 <| c_cF rfl <| c_ex <| WE.then_x <| WE.then_x <| WE.blk_x <| WE.then_n h20 <| c_sq fun k33 h33 => c_rg <| r_mv rfl rfl <| r_as rfl rfl <| r_nx h33 <| c_rt ?_; rotate_left)
      exact WE.ret1 () rfl rfl (by rw [← h2]; rfl) trivial Mem.drop
    | succ k =>
      rw [show ((k + 1 : Nat) : Int) - 1 = (k : Nat) by omega]
      have hgs : (l.getD k ⟨#[]⟩).size ≤ 500000 := by
        rw [List.getD_eq_getElem?_getD, List.getElem?_eq_getElem (by omega)]
        exact hs _ (List.getElem_mem _)
      have hm : (l.length - k) * 500001 = (l.length - (k + 1)) * 500001 + 500001 := by
        rw [show l.length - k = l.length - (k + 1) + 1 by omega, Nat.add_mul, Nat.one_mul]
      have hm2 : (l.length - (k + 1)) * 500001 ≤ 900 * 500001 := Nat.mul_le_mul_right _ (by omega)
      (refine c_sq fun k36 h36 => c_sq fun k38 h38 => c_rg <| r_mv rfl rfl <| r_geT rfl rfl rfl (by omega) <| r_nx h38 <| c_cT rfl <| c_sk <| WE.then_n h36 <| c_sq fun k40 h40 => c_bl <| c_sq fun k42 h42 => c_rg <| r_mv rfl rfl <| r_fa 0 rfl (fun _ => by kernel_rfl) rfl <| r_lb 0 Tryd.underlying22 rfl rfl rfl rfl rfl <| r_mv rfl rfl <| r_im (hA.app _) Tryd.underlying22 (by kernel_rfl) rfl rfl rfl rfl (by omega) (by omega) <| r_lt (k) (hA.app _) Tryd.underlying9 rfl rfl rfl (by omega) ?_; rotate_left)
      refine r_sad rfl rfl rfl (by omega) ?_
      have hsz : (out ++ l.getD k ⟨#[]⟩).size = out.size + (l.getD k ⟨#[]⟩).size := ByteArray.size_append
      have hst : rtxt l (k + 1) out = rtxt l k (if 0 < k then out ++ l.getD k ⟨#[]⟩ ++ ⟨#[46]⟩ else out ++ l.getD k ⟨#[]⟩) := rfl
      have e46 : (⟨#[46]⟩ : ByteArray).size = 1 := rfl
      by_cases hk : 0 < k
      · rw [if_pos hk] at hst
        (refine r_as rfl rfl <| r_nx h42 <| c_sq fun k49 h49 => c_rg <| r_mv rfl rfl <| r_gtT rfl rfl rfl (by omega) <| r_nx h49 <| c_cT rfl <| c_rg <| r_mv rfl rfl ?_; rotate_left)
        refine r_sad (u := ⟨#[46]⟩) rfl rfl rfl (by omega) ?_
        (refine r_as rfl rfl <| r_nl <| WE.blk_n <| WE.then_n h40 <| c_rg <| r_mv rfl rfl <| r_su rfl rfl rfl (wsub64 (by omega)) <| r_as rfl rfl <| r_nl ?_; rotate_left)
        exact WE.back (k, out ++ l.getD k ⟨#[]⟩ ++ ⟨#[46]⟩) ⟨by dsimp only; omega, by dsimp only; rw [← hst]; exact h2, by dsimp only; rw [ByteArray.size_append, hsz, hm, e46]; omega⟩ (by dsimp only; omega) ⟨rfl, rfl, rfl, trivial⟩ Mem.keep
      · rw [if_neg hk] at hst
        (refine r_as rfl rfl <| r_nx h42 <| c_sq fun k49 h49 => c_rg <| r_mv rfl rfl <| r_gtF rfl rfl rfl (by omega) <| r_nx h49 <| c_cF rfl <| c_sk <| WE.blk_n <| WE.then_n h40 <| c_rg <| r_mv rfl rfl <| r_su rfl rfl rfl (wsub64 (by omega)) <| r_as rfl rfl <| r_nl ?_; rotate_left)
        exact WE.back (k, out ++ l.getD k ⟨#[]⟩) ⟨by dsimp only; omega, by dsimp only; rw [← hst]; exact h2, by dsimp only; rw [hsz, hm]; omega⟩ (by dsimp only; omega) ⟨rfl, rfl, rfl, trivial⟩ Mem.keep
  · show PureC _ _ _ _ _ (.string (rtxt l l.length ⟨#[33]⟩))
    refine Ct.of Tryd.func9 rfl (by kernel_rfl) rfl ?_
    (refine c_sq fun k11 h11 => c_rg <| r_bx rfl rfl rfl (fun _ => ?_); refine r_as rfl rfl <| r_nx h11 <| c_sq fun k14 h14 => c_rg <| r_as rfl rfl <| r_nx h14 <| c_sq fun k16 h16 => c_sq fun k18 h18 => c_rg <| r_fa 1 rfl (fun _ => by kernel_rfl) rfl <| r_lb 0 Tryd.underlying4 rfl rfl rfl rfl rfl <| r_nx h18 <| c_cT rfl <| c_rg <| r_as rfl rfl <| r_nx h16 <| c_sq fun k20 h20 => c_sq fun k22 h22 => c_rg <| r_fa 0 rfl (fun _ => by kernel_rfl) rfl <| r_lb 0 Tryd.underlying22 rfl rfl rfl rfl rfl <| r_ls Tryd.underlying22 rfl rfl <| r_su rfl rfl rfl (wsub64 (by omega)) <| r_as rfl rfl <| r_nx h22 <| c_bl ?_; rotate_left)
    rename_i b1
    refine WC.loop (α := Nat × ByteArray) (fun x => [(1, .pointer (some ⟨b1, 0, none⟩)), (3, .string x.2), (4, .int .i64 ((x.1 : Nat) - 1))]) (fun _ => [.blk b1 [.slice A l.length c, .bool true] 24])
      (fun x => x.1 ≤ l.length ∧ rtxt l x.1 x.2 = rtxt l l.length ⟨#[33]⟩ ∧ x.2.size ≤ 1 + (l.length - x.1) * 500001) (fun x => x.1) (l.length, ⟨#[33]⟩) ⟨Nat.le_refl _, rfl, Nat.le_trans (show (⟨#[33]⟩ : ByteArray).size ≤ 1 by decide) (Nat.le_add_right _ _)⟩ ⟨rfl, rfl, rfl, trivial⟩ Mem.keep ?_
    rintro ⟨k, out⟩ ⟨h1, h2, h3⟩
    dsimp only at h1 h2 h3 ⊢
    cases k with
    | zero =>
      (refine c_sq fun k29 h29 => c_sq fun k31 h31 => c_rg <| r_mv rfl rfl <| r_geF rfl rfl rfl (by omega) <| r_nx h31 <| c_cF rfl <| c_ex <| WE.then_x <| WE.then_x <| WE.blk_x <| WE.then_n h20 <| c_sq fun k33 h33 => c_rg <| r_mv rfl rfl <| r_as rfl rfl <| r_nx h33 <| c_rt ?_; rotate_left)
      exact WE.ret1 () rfl rfl (by rw [← h2]; rfl) trivial Mem.drop
    | succ k =>
      rw [show ((k + 1 : Nat) : Int) - 1 = (k : Nat) by omega]
      have hgs : (l.getD k ⟨#[]⟩).size ≤ 500000 := by
        rw [List.getD_eq_getElem?_getD, List.getElem?_eq_getElem (by omega)]
        exact hs _ (List.getElem_mem _)
      have hm : (l.length - k) * 500001 = (l.length - (k + 1)) * 500001 + 500001 := by
        rw [show l.length - k = l.length - (k + 1) + 1 by omega, Nat.add_mul, Nat.one_mul]
      have hm2 : (l.length - (k + 1)) * 500001 ≤ 900 * 500001 := Nat.mul_le_mul_right _ (by omega)
      (refine c_sq fun k36 h36 => c_sq fun k38 h38 => c_rg <| r_mv rfl rfl <| r_geT rfl rfl rfl (by omega) <| r_nx h38 <| c_cT rfl <| c_sk <| WE.then_n h36 <| c_sq fun k40 h40 => c_bl <| c_sq fun k42 h42 => c_rg <| r_mv rfl rfl <| r_fa 0 rfl (fun _ => by kernel_rfl) rfl <| r_lb 0 Tryd.underlying22 rfl rfl rfl rfl rfl <| r_mv rfl rfl <| r_im (hA.app _) Tryd.underlying22 (by kernel_rfl) rfl rfl rfl rfl (by omega) (by omega) <| r_lt (k) (hA.app _) Tryd.underlying9 rfl rfl rfl (by omega) ?_; rotate_left)
      refine r_sad rfl rfl rfl (by omega) ?_
      have hsz : (out ++ l.getD k ⟨#[]⟩).size = out.size + (l.getD k ⟨#[]⟩).size := ByteArray.size_append
      have hst : rtxt l (k + 1) out = rtxt l k (if 0 < k then out ++ l.getD k ⟨#[]⟩ ++ ⟨#[46]⟩ else out ++ l.getD k ⟨#[]⟩) := rfl
      have e46 : (⟨#[46]⟩ : ByteArray).size = 1 := rfl
      by_cases hk : 0 < k
      · rw [if_pos hk] at hst
        (refine r_as rfl rfl <| r_nx h42 <| c_sq fun k49 h49 => c_rg <| r_mv rfl rfl <| r_gtT rfl rfl rfl (by omega) <| r_nx h49 <| c_cT rfl <| c_rg <| r_mv rfl rfl ?_; rotate_left)
        refine r_sad (u := ⟨#[46]⟩) rfl rfl rfl (by omega) ?_
        (refine r_as rfl rfl <| r_nl <| WE.blk_n <| WE.then_n h40 <| c_rg <| r_mv rfl rfl <| r_su rfl rfl rfl (wsub64 (by omega)) <| r_as rfl rfl <| r_nl ?_; rotate_left)
        exact WE.back (k, out ++ l.getD k ⟨#[]⟩ ++ ⟨#[46]⟩) ⟨by dsimp only; omega, by dsimp only; rw [← hst]; exact h2, by dsimp only; rw [ByteArray.size_append, hsz, hm, e46]; omega⟩ (by dsimp only; omega) ⟨rfl, rfl, rfl, trivial⟩ Mem.keep
      · rw [if_neg hk] at hst
        (refine r_as rfl rfl <| r_nx h42 <| c_sq fun k49 h49 => c_rg <| r_mv rfl rfl <| r_gtF rfl rfl rfl (by omega) <| r_nx h49 <| c_cF rfl <| c_sk <| WE.blk_n <| WE.then_n h40 <| c_rg <| r_mv rfl rfl <| r_su rfl rfl rfl (wsub64 (by omega)) <| r_as rfl rfl <| r_nl ?_; rotate_left)
        exact WE.back (k, out ++ l.getD k ⟨#[]⟩) ⟨by dsimp only; omega, by dsimp only; rw [← hst]; exact h2, by dsimp only; rw [hsz, hm]; omega⟩ (by dsimp only; omega) ⟨rfl, rfl, rfl, trivial⟩ Mem.keep
theorem joinP_single (x : ByteArray) : joinP dotB [x] = x := by
  apply ba_ext
  rw [join_data [x] (by simp)]
  simp [tailJ]
theorem rtxt_eq (l : List ByteArray) : ∀ (k : Nat) (out : ByteArray), k ≤ l.length → rtxt l k out = out ++ joinP dotB (l.take k).reverse
  | 0, out, _ => by
    apply ba_ext
    show out.data.toList = _
    rw [List.take_zero, List.reverse_nil]
    have : joinP dotB [] = ⟨#[]⟩ := rfl
    rw [this]
    simp
  | k + 1, out, h => by
    have hk : k < l.length := by omega
    have ht : (l.take (k + 1)).reverse = l.getD k ⟨#[]⟩ :: (l.take k).reverse := by
      rw [List.take_add_one, List.getElem?_eq_getElem hk, List.getD_eq_getElem?_getD, List.getElem?_eq_getElem hk]
      simp
    rw [rtxt, ht]
    by_cases h0 : 0 < k
    · rw [if_pos h0, rtxt_eq l k _ (by omega)]
      have hne : (l.take k).reverse ≠ [] := by
        intro e
        have := congrArg List.length e
        rw [List.length_reverse, List.length_take, Nat.min_eq_left (by omega), List.length_nil] at this
        omega
      have hj := joinP_app [l.getD k ⟨#[]⟩] (l.take k).reverse (by simp) hne
      rw [joinP_single, List.singleton_append] at hj
      rw [hj]
      apply ba_ext
      simp [List.append_assoc]
      rfl
    · obtain rfl : k = 0 := by omega
      rw [if_neg h0, rtxt]
      rw [List.take_zero, List.reverse_nil, joinP_single]
theorem rtext_eq (A : Option Addr) (c : Nat) (l : List ByteArray) (ex : Bool) (hn : l.length ≤ 900) (hs : ∀ s ∈ l, s.size ≤ 500000) (w0 : World) (m0 : List Res) (hA : Rd w0 m0 A (strsV l)) (hA2 : 0 < l.length → A.isSome = true) :
    PureC Tryd.prog 9 [.agg #[.slice A l.length c, .bool ex]] w0 m0 (.string (textP l ex)) := by
  have h := rtext_spec A c l ex hn hs w0 m0 hA hA2
  rw [rtxt_eq l l.length _ (Nat.le_refl _), List.take_length] at h
  unfold textP
  cases ex
  · rw [if_neg (by decide), show (⟨#[]⟩ : ByteArray) ++ joinP dotB l.reverse = joinP dotB l.reverse by apply ba_ext; simp] at h
    exact h
  · exact h
end Go.Proofs.YtkggplnigjlegaaDoor

/- gatepostref15.Few at one rule: the walk. -/
set_option linter.unusedVariables false
set_option linter.unusedSimpArgs false
namespace Go.Proofs.YtkggplnigjlegaaDoor
open Go.RowKit Go.Gp

def fewB (l : List ByteArray) : Bool := (l.take 9).all (fun s => decide (s.size ≤ 40)) && decide (l.length ≤ 8)
theorem fewB_len {l : List ByteArray} (h : 8 < l.length) : fewB l = false := by
  unfold fewB
  rw [decide_eq_false (by omega), Bool.and_false]
theorem fewB_ok {l : List ByteArray} (h : l.length ≤ 8) (hs : ∀ j, j < l.length → (l.getD j ⟨#[]⟩).size ≤ 40) : fewB l = true := by
  unfold fewB
  rw [decide_eq_true h, Bool.and_true, List.all_eq_true]
  intro s hm
  obtain ⟨j, hj⟩ := List.mem_iff_getElem?.1 (List.mem_of_mem_take hm)
  have hlt := (List.getElem?_eq_some_iff.1 hj).1
  have := hs j hlt
  rw [List.getD_eq_getElem?_getD, hj] at this
  simpa using this
theorem fewB_at {l : List ByteArray} {k : Nat} (h9 : k < 9) (hk : k < l.length) (h : ¬ (l.getD k ⟨#[]⟩).size ≤ 40) : fewB l = false := by
  cases hb : fewB l with
  | false => rfl
  | true =>
    unfold fewB at hb
    rw [Bool.and_eq_true, List.all_eq_true] at hb
    have hm : l.getD k ⟨#[]⟩ ∈ l.take 9 := List.mem_iff_getElem?.2 ⟨k, by rw [List.getElem?_take, if_pos h9, List.getD_eq_getElem?_getD, List.getElem?_eq_getElem hk]; rfl⟩
    exact absurd (by simpa using hb.1 _ hm) h
set_option maxRecDepth 100000 in
theorem few_spec (a : Nat) (A : Option Addr) (c : Nat) (l : List ByteArray) (ex : Bool) (hn : l.length ≤ 9223372036854775807) (w0 : World) (m0 : List Res) (hr : Rd w0 m0 (some ⟨a, 0, none⟩) [.slice A l.length c, .bool ex]) (hA : Rd w0 m0 A (strsV l)) (hA2 : 0 < l.length → A.isSome = true) :
    PureC Tryd.prog 7 [.slice (some ⟨a, 0, none⟩) 1 1] w0 m0 (.bool (fewB l)) := by
  refine Ct.of Tryd.func7 rfl (by kernel_rfl) rfl ?_
  (refine c_sq fun k12 h12 => c_rg <| r_as rfl rfl <| r_nx h12 <| c_sq fun k14 h14 => c_sq fun k16 h16 => c_rg <| r_as rfl rfl <| r_nx h16 <| c_bl ?_; rotate_left)
  refine WC.loop (α := Nat) (fun i => [(0, .slice (some ⟨a, 0, none⟩) 1 1), (3, .int .i64 (i : Nat))]) (fun _ => []) (fun i => i ≤ 1 ∧ (i = 1 → fewB l = true)) (fun i => 1 - i) 0 ⟨by omega, fun h => by omega⟩ ⟨rfl, rfl, trivial⟩ Mem.keep ?_
  rintro i ⟨hi, hf⟩
  by_cases h1 : i = 1
  · subst h1
    have hf := hf rfl
    (refine c_sq fun k21 h21 => c_sq fun k23 h23 => c_rg <| r_mv rfl rfl <| r_mv rfl rfl <| r_ls Tryd.underlying27 rfl rfl <| r_ltF rfl rfl rfl (by omega) <| r_mv rfl rfl <| r_sk rfl rfl <| r_sk rfl rfl <| r_pF rfl rfl rfl <| r_nx h23 <| c_cF rfl <| c_ex <| WE.then_x <| WE.then_x <| WE.blk_x <| WE.then_n h14 <| c_sq fun k25 h25 => c_rg <| r_mv rfl rfl <| r_ls Tryd.underlying27 rfl rfl <| r_leT rfl rfl rfl (by omega) <| r_as rfl rfl <| r_nx h25 <| c_rt ?_; rotate_left)
    exact WE.ret1 () rfl rfl (by rw [hf]; rfl) trivial Mem.drop
  · obtain rfl : i = 0 := by omega
    (refine c_sq fun k21 h21 => c_sq fun k23 h23 => c_rg <| r_mv rfl rfl <| r_mv rfl rfl <| r_ls Tryd.underlying27 rfl rfl <| r_ltT rfl rfl rfl (by omega) <| r_mv rfl rfl <| r_mv rfl rfl <| r_ltT rfl rfl rfl (by omega) <| r_pT rfl rfl rfl <| r_nx h23 <| c_cT rfl <| c_sk <| WE.then_n h21 <| c_sq fun k25 h25 => c_bl <| c_sq fun k27 h27 => c_sq fun k29 h29 => c_rg <| r_as rfl rfl <| r_nx h29 <| c_bl ?_; rotate_left)
    refine WC.loop (α := Nat) (fun k => [(0, .slice (some ⟨a, 0, none⟩) 1 1), (3, .int .i64 ((0 : Nat) : Int)), (4, .int .i64 (k : Nat))]) (fun _ => []) (fun k => k ≤ l.length ∧ k ≤ 9 ∧ ∀ j, j < k → (l.getD j ⟨#[]⟩).size ≤ 40) (fun k => 9 - k) 0 ⟨by omega, by omega, fun j hj => by omega⟩ ⟨rfl, rfl, rfl, trivial⟩ Mem.keep ?_
    rintro k ⟨hk1, hk2, hk3⟩
    by_cases hlt : k < l.length ∧ k < 9
    · obtain ⟨hl1, hl2⟩ := hlt
      (refine c_sq fun k37 h37 => c_sq fun k39 h39 => c_rg <| r_mv rfl rfl <| r_mv rfl rfl <| r_mv rfl rfl ?_; rotate_left)
      refine r_iaN (sz := 2) 0 Tryd.underlying27 (by kernel_rfl) rfl rfl rfl (by decide) (by decide) rfl ?_
      refine r_fa 0 rfl (fun w => by kernel_rfl) rfl ?_
      refine r_lg Tryd.underlying22 rfl rfl rfl (hr.app _) rfl ?_
      (refine r_ls Tryd.underlying22 rfl rfl <| r_ltT rfl rfl rfl (by omega) <| r_mv rfl rfl <| r_mv rfl rfl <| r_ltT rfl rfl rfl (by omega) <| r_pT rfl rfl rfl <| r_nx h39 <| c_cT rfl <| c_sk <| WE.then_n h37 <| c_sq fun k41 h41 => c_bl <| c_sq fun k43 h43 => c_rg <| r_mv rfl rfl <| r_mv rfl rfl ?_; rotate_left)
      refine r_iaN (sz := 2) 0 Tryd.underlying27 (by kernel_rfl) rfl rfl rfl (by decide) (by decide) rfl ?_
      refine r_fa 0 rfl (fun w => by kernel_rfl) rfl ?_
      refine r_lg Tryd.underlying22 rfl rfl rfl (hr.app _) rfl ?_
      (refine r_mv rfl rfl <| r_im (hA.app _) Tryd.underlying22 (by kernel_rfl) rfl rfl rfl rfl (by omega) (by omega) <| r_lt (k) (hA.app _) Tryd.underlying9 rfl rfl rfl (by omega) <| r_lS Tryd.underlying9 rfl rfl ?_; rotate_left)
      by_cases h40 : (l.getD k ⟨#[]⟩).size ≤ 40
      · (refine r_gtF rfl rfl rfl (by omega) <| r_nx h43 <| c_cF rfl <| c_sk <| WE.blk_n <| WE.then_n h41 <| c_rg <| r_mv rfl rfl <| r_ad rfl rfl rfl (wadd64 (by omega)) <| r_as rfl rfl <| r_nl ?_; rotate_left)
        exact WE.back (k + 1) ⟨by omega, by omega, fun j hj => by
          rcases (by omega : j < k ∨ j = k) with h | rfl
          · exact hk3 j h
          · exact h40⟩ (by omega) ⟨rfl, rfl, rfl, trivial⟩ Mem.keep
      · (refine r_gtT rfl rfl rfl (by omega) <| r_nx h43 <| c_cT rfl <| c_sq fun k46 h46 => c_rg <| r_as rfl rfl <| r_nx h46 <| c_rt <| WE.blk_r <| WE.then_r <| WE.then_r <| WE.blk_r <| WE.then_r <| WE.blk_r <| WE.then_r <| WE.then_r <| WE.blk_r <| WE.then_r ?_; rotate_left)
        exact WE.ret1 () rfl rfl (by rw [fewB_at hl2 hl1 h40]; rfl) trivial Mem.drop
    · by_cases hlk : k < l.length
      · obtain rfl : k = 9 := by omega
        (refine c_sq fun k36 h36 => c_sq fun k38 h38 => c_rg <| r_mv rfl rfl <| r_mv rfl rfl <| r_mv rfl rfl ?_; rotate_left)
        refine r_iaN (sz := 2) 0 Tryd.underlying27 (by kernel_rfl) rfl rfl rfl (by decide) (by decide) rfl ?_
        refine r_fa 0 rfl (fun w => by kernel_rfl) rfl ?_
        refine r_lg Tryd.underlying22 rfl rfl rfl (hr.app _) rfl ?_
        (refine r_ls Tryd.underlying22 rfl rfl <| r_ltT rfl rfl rfl (by omega) <| r_mv rfl rfl <| r_mv rfl rfl <| r_ltF rfl rfl rfl (by omega) <| r_pT rfl rfl rfl <| r_nx h38 <| c_cF rfl <| c_ex <| WE.then_x <| WE.then_x <| WE.blk_x <| WE.then_n h27 <| c_sq fun k40 h40 => c_rg <| r_mv rfl rfl <| r_mv rfl rfl ?_; rotate_left)
        refine r_iaN (sz := 2) 0 Tryd.underlying27 (by kernel_rfl) rfl rfl rfl (by decide) (by decide) rfl ?_
        refine r_fa 0 rfl (fun w => by kernel_rfl) rfl ?_
        refine r_lg Tryd.underlying22 rfl rfl rfl (hr.app _) rfl ?_
        (refine r_ls Tryd.underlying22 rfl rfl <| r_gtT rfl rfl rfl (by omega) <| r_nx h40 <| c_cT rfl <| c_sq fun k42 h42 => c_rg <| r_as rfl rfl <| r_nx h42 <| c_rt <| WE.blk_r <| WE.then_r <| WE.then_r <| WE.blk_r <| WE.then_r ?_; rotate_left)
        exact WE.ret1 () rfl rfl (by rw [fewB_len (by omega)]; rfl) trivial Mem.drop
      · obtain rfl : k = l.length := by omega
        (refine c_sq fun k36 h36 => c_sq fun k38 h38 => c_rg <| r_mv rfl rfl <| r_mv rfl rfl <| r_mv rfl rfl ?_; rotate_left)
        refine r_iaN (sz := 2) 0 Tryd.underlying27 (by kernel_rfl) rfl rfl rfl (by decide) (by decide) rfl ?_
        refine r_fa 0 rfl (fun w => by kernel_rfl) rfl ?_
        refine r_lg Tryd.underlying22 rfl rfl rfl (hr.app _) rfl ?_
        (refine r_ls Tryd.underlying22 rfl rfl <| r_ltF rfl rfl rfl (by omega) <| r_mv rfl rfl <| r_sk rfl rfl <| r_sk rfl rfl <| r_pF rfl rfl rfl <| r_nx h38 <| c_cF rfl <| c_ex <| WE.then_x <| WE.then_x <| WE.blk_x <| WE.then_n h27 <| c_sq fun k40 h40 => c_rg <| r_mv rfl rfl <| r_mv rfl rfl ?_; rotate_left)
        refine r_iaN (sz := 2) 0 Tryd.underlying27 (by kernel_rfl) rfl rfl rfl (by decide) (by decide) rfl ?_
        refine r_fa 0 rfl (fun w => by kernel_rfl) rfl ?_
        refine r_lg Tryd.underlying22 rfl rfl rfl (hr.app _) rfl ?_
        (refine r_ls Tryd.underlying22 rfl rfl ?_; rotate_left)
        by_cases h8 : l.length ≤ 8
        · (refine r_gtF rfl rfl rfl (by omega) <| r_nx h40 <| c_cF rfl <| c_sk <| WE.blk_n <| WE.then_n h25 <| c_rg <| r_mv rfl rfl <| r_ad rfl rfl rfl (wadd64 (by omega)) <| r_as rfl rfl <| r_nl ?_; rotate_left)
          exact WE.back 1 ⟨Nat.le_refl _, fun _ => fewB_ok h8 hk3⟩ (by omega) ⟨rfl, rfl, trivial⟩ Mem.keep
        · (refine r_gtT rfl rfl rfl (by omega) <| r_nx h40 <| c_cT rfl <| c_sq fun k43 h43 => c_rg <| r_as rfl rfl <| r_nx h43 <| c_rt <| WE.blk_r <| WE.then_r <| WE.then_r <| WE.blk_r <| WE.then_r ?_; rotate_left)
          exact WE.ret1 () rfl rfl (by rw [fewB_len (by omega)]; rfl) trivial Mem.drop
end Go.Proofs.YtkggplnigjlegaaDoor

/- RulesTexts: the law's walk. -/
set_option linter.unusedVariables false
set_option linter.unusedSimpArgs false
namespace Go.Proofs.YtkggplnigjlegaaDoor
open Go.RowKit Go.Gp

theorem fewB_sizes {l : List ByteArray} (h : fewB l = true) : l.length ≤ 8 ∧ ∀ s ∈ l, s.size ≤ 500000 := by
  unfold fewB at h
  rw [Bool.and_eq_true, List.all_eq_true] at h
  have h8 : l.length ≤ 8 := by simpa using h.2
  refine ⟨h8, fun s hs => ?_⟩
  have := h.1 s (by rw [List.take_of_length_le (by omega)]; exact hs)
  have h2 : s.size ≤ 40 := by simpa using this
  omega
set_option maxRecDepth 100000 in
theorem rulesTexts_spec (A : Option Addr) (c : Nat) (l : List ByteArray) (ex : Bool) (hn : l.length ≤ 9223372036854775807) (w0 : World) (m0 : List Res) (hA : Rd w0 m0 A (strsV l)) (hA2 : 0 < l.length → A.isSome = true) :
    PureC Tryd.prog 3 [.agg #[.slice A l.length c, .bool ex]] w0 m0 (.bool true) := by
  refine Ct.of Tryd.func3 rfl (by kernel_rfl) rfl ?_
  (refine c_sq fun k10 h10 => c_rg <| r_bx rfl rfl rfl (fun _ => ?_); refine r_as rfl rfl <| r_nx h10 <| c_sq fun k13 h13 => c_rg ?_; rotate_left)
  rename_i b1
  refine WX.pure rfl rfl (awake15_spec _ _) rfl rfl ?_
  (refine r_as rfl rfl <| r_nx h13 <| c_sq fun k15 h15 => c_sq fun k17 h17 => c_rg <| r_la 0 Tryd.underlying24 rfl (by kernel_rfl) rfl rfl rfl ?_)
  refine WX.ev (Ev.buildSlice (e := 24) (vs := [(0, .agg #[.slice A l.length c, .bool ex])]) (cs := [.slice A l.length c, .bool ex]) rfl (fun w => by kernel_rfl)) rfl rfl rfl rfl (fun a _ => ?_)
  refine WX.pure rfl rfl (few_spec a A c l ex hn _ _ (Rd.blk 0 rfl) (hA.app _) hA2) rfl rfl ?_
  cases hf : fewB l
  · (refine r_no rfl rfl rfl <| r_nx h17 <| c_cT rfl <| c_sq fun k22 h22 => c_rg <| r_mv rfl rfl <| r_as rfl rfl <| r_nx h22 <| c_rt <| WE.then_r ?_; rotate_left)
    exact WE.ret1 () rfl rfl rfl trivial Mem.drop
  · obtain ⟨h8, hs⟩ := fewB_sizes hf
    (refine r_no rfl rfl rfl <| r_nx h17 <| c_cF rfl <| c_sk <| WE.then_n h15 <| c_sq fun k24 h24 => c_dr rfl (by kernel_rfl) (by kernel_rfl) <| r_mv rfl rfl <| r_mv rfl rfl <| r_la 1 Tryd.underlying24 rfl (by kernel_rfl) rfl rfl rfl ?_; rotate_left)
    refine WX.pure rfl rfl (text_spec A c l ex (by omega) hs _ _ (hA.app _) hA2) rfl rfl ?_
    (refine r_la 1 Tryd.underlying24 rfl (by kernel_rfl) rfl rfl rfl ?_; rotate_left)
    refine WX.pure rfl rfl (rtext_eq A c l ex (by omega) hs _ _ (hA.app _) hA2) rfl rfl ?_
    refine r_seq rfl rfl (fun _ => by kernel_rfl) rfl ?_
    rw [decide_eq_true rfl]
    (refine r_pT rfl rfl rfl <| r_as rfl rfl <| r_nx h24 <| c_rt ?_; rotate_left)
    exact WE.ret1 () rfl rfl rfl trivial Mem.drop
end Go.Proofs.YtkggplnigjlegaaDoor

/- A struct of a slice of strings and a bool is opened. -/
namespace Go.Proofs.YtkggplnigjlegaaDoor
open Go.ChangeShapes Go.WideShapes Go.ChangeAt Go.RowKit Go.Gp

set_option maxRecDepth 100000 in
theorem open_rule {H : Type} {enc : TypeId × Value → H} {W : World} {v : Value} {d : DataW H} {ps : List MemPlace} (hf : Value.okWide Tryd.prog W .any 0 24 v) (h : DataW.Trod enc Tryd.prog W 0 (fun _ => true) true 24 v d ps) :
    ∃ (A : Option Addr) (c : Nat) (l : List ByteArray) (ex : Bool), v = .agg #[.slice A l.length c, .bool ex] ∧ Rd W [] A (strsV l) ∧ (0 < l.length → A.isSome = true) ∧ l.length ≤ maxLen := by
  obtain ⟨v0, v1, y0, y1, n, rfl, _, _, g0, g1⟩ := Go.Joins.open_agg2 Tryd.underlying24 (by kernel_rfl) (by kernel_rfl) hf h
  obtain ⟨ex, hb⟩ : ∃ ex, v1 = .bool ex := by
    obtain ⟨ex, h2, _⟩ := DataW.trod_bool Tryd.underlying4 g1
    exact ⟨ex, by simpa using h2⟩
  subst hb
  rcases open_strings Tryd.underlying22 Tryd.underlying9 (by kernel_rfl) g0 with ⟨h1, _⟩ | ⟨a, len, cap, ss, h1, _, hl, hm, hz, _, hcell, _⟩
  · obtain rfl : v0 = .slice none 0 0 := by simpa using h1
    exact ⟨none, 0, [], ex, rfl, Rd.nil _, by simp, by simp⟩
  · obtain rfl : v0 = .slice (some a) len cap := by simpa using h1
    rw [if_pos rfl] at hz
    have hlen : (ss.take len).length = len := by simp [hz, hl]
    refine ⟨some a, cap, ss.take len, ex, by rw [hlen], ?_, fun _ => rfl, by omega⟩
    unfold Rd
    intro w hw j u hj
    refine ⟨a, rfl, ?_⟩
    obtain ⟨hj1, hj2⟩ := List.getElem?_eq_some_iff.1 hj
    have hj3 : j < len := by simpa [hz, Nat.min_eq_left hl] using hj1
    have hcj := hcell j (by omega)
    have hblk : (a.add j).block < W.heap.size := World.block_lt_of_cell? W _ hcj
    rw [hw.below.cell hblk, hcj, ← hj2]
    have : j < ss.length := by omega
    simp [this]
end Go.Proofs.YtkggplnigjlegaaDoor

/- For every api.Rule, gatepostlaw15.RulesTexts returns true, and its argument reads as it did. Condition: as the given card has it: the variables unicode/utf8.first and unicode/utf8.acceptRanges are tied to the program's text. -/
namespace Go.Proofs.YtkggplnigjlegaaDoor
open Go.ChangeShapes Go.WideShapes Go.ChangeAt Go.RowKit Go.Gp

theorem own_rulesTexts : ownKnob Tryd.prog.godebug = none := by kernel_rfl
theorem laid_rulesTexts : laidOutB Tryd.prog = true := by kernel_rfl
set_option maxRecDepth 1000000 in
theorem func_rulesTexts : Tryd.prog.funcs[3]? = some Tryd.f3 := rfl
set_option maxRecDepth 100000 in
theorem rulesTexts_lifted (os : Os) (started : os.Started) (H : Type) (enc : TypeId × Value → H) :
    ReturnsInHanded {} Tryd.checked os 3 .any (fun w args => (Rows.rulesTextsSpec.pre enc Tryd.prog Tryd.f3 [] false w args ∧ laidMetH Tryd.prog Rows.rulesTextsRow.laid w) ∧ sizedMet enc Tryd.prog Tryd.f3 (OpenSpec.ofChange Rows.rulesTextsSpec) false w args)
      (Rows.rulesTextsSpec.post enc Tryd.prog Tryd.f3 false true false false) := by
  refine returnsInHanded_of_change_and (C := Tryd.checked) (X := fun w _ => laidMetH Tryd.prog Rows.rulesTextsRow.laid w) (fun _ _ _ hh h => h.of_heap hh) own_rulesTexts started (by kernel_rfl) func_rulesTexts
    (ChangeSpec.witness_shaped (enc := enc) (C := Tryd.checked) (os := os) (X := fun w _ => laidMetH Tryd.prog Rows.rulesTextsRow.laid w) false (World.laidAll Tryd.prog os Rows.rulesTextsRow.laid) #[.agg #[.slice none 0 0, .bool false]] 8 (World.laidAll_os _ _ _)
      (World.shaped_of_ZipB (by kernel_rfl) (by kernel_rfl)) (by kernel_rfl) (by kernel_rfl) (by kernel_rfl)
      (by rw [MakeChecks.laidMetH_plain _ _ _ (by kernel_rfl)]; exact laidMet_laidAll _ (by kernel_rfl) (by kernel_rfl))) ?_
  intro W base args ds gs before hval0 hW _ _ hL _
  have hval1 : ∀ (j : Nat) t v, Tryd.f3.params[j]? = some t → args[j]? = some v → Value.okWide Tryd.prog W .any base t v := hval0
  have hval : ∀ (j : Nat) t v, Tryd.f3.params[j]? = some t → args[j]? = some v → Value.okWide Tryd.prog W .any 0 t v := hval1
  have hW' := hW
  obtain ⟨p, q, hA0, hV, rfl, hfz, hnd⟩ := hW
  have hA : DataW.TrodAll enc Tryd.prog W 0 (fun _ => true) true [24] args.toList ds p := hA0
  obtain ⟨v0, d0, rfl, rfl, h0⟩ := trodAll_one hA
  obtain ⟨rfl, rfl⟩ := trodVars_none hV
  obtain ⟨A0, c0, l0, ex0, rfl, hR0, hA20, hm0⟩ := open_rule (hval 0 24 v0 rfl rfl) h0
  refine ((rulesTexts_spec A0 c0 l0 ex0 (by unfold maxLen at hm0; omega) W [] hR0 hA20).calls).mono fun e W' hh => ?_
  obtain ⟨he, hb⟩ := hh
  exact ⟨_, he, post_true laid_rulesTexts (by kernel_rfl) rfl rfl rfl hW' hb rfl rfl rfl⟩

theorem rulesTexts_holds : Rows.RulesTextsSaid :=
  OpenClaim.holds_of_wide 3 Tryd.f3 rfl rfl rfl rfl rfl rfl rfl ⟨rfl, rfl, rfl, rfl, rfl⟩ rfl rfl rfl rfl rfl (by kernel_rfl) func_rulesTexts (by kernel_rfl)
    (of_decide_eq_true (by kernel_rfl)) (by unfold Func.isWrapper; first | (rw [if_pos (by decide +kernel)]; kernel_rfl) | (rw [if_neg (by decide +kernel)]; exact ⟨rfl, rfl⟩))
    (fun os started H enc _ => rulesTexts_lifted os started H enc)

/-- THE TIED CARD. -/
theorem rulesTexts_card : Rows.RulesTextsCardSaid :=
  Claim7.holds_tied_plain_at .later [] [.data, .pinned] true Rows.rulesTextsCard.stood.harness false
    rulesTexts_holds (fun _ h => by cases h) (by kernel_rfl) (fun _ h => by cases h) rulesTexts_row_tie rfl ⟨rfl, rfl⟩ (by kernel_rfl) rfl
    (fun f fn hf hfn => by
      obtain rfl : f = 3 := Option.some.inj ((show Tryd.prog.funcNamed "gatepost/gatepostlaw15.RulesTexts" = some 3 by kernel_rfl).symm.trans hf) |>.symm
      obtain rfl : fn = Tryd.f3 := (Option.some.inj (func_rulesTexts.symm.trans hfn)).symm
      exact ⟨by kernel_rfl, fun j t ht => by
        have ht' : ([24] : List TypeId)[j]? = some t := by
          have h2 : Tryd.f3.params.toList[j]? = some t := by simpa using ht
          exact h2
        have h3 : t = 24 := by
          have := List.mem_of_getElem? ht'
          simpa using this
        subst h3
        exact (show Tryd.prog.wantsStandIn 24 = false by kernel_rfl)⟩)
    (by kernel_rfl)
end Go.Proofs.YtkggplnigjlegaaDoor
