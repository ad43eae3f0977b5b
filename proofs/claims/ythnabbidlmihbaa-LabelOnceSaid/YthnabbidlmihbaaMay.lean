/- slices.Equal and label.may: the walks. -/
import Derived.Test.YthnabbidlmihbaaLeaf
import Derived.Test.YthnabbidlmihbaaFold
import Derived.Test.YthnabbidlmihbaaLawFold
namespace Go.Proofs.Ythnabbidlmihbaa
open Go.RowKit Go.Gp

set_option maxRecDepth 100000 in
theorem equal_spec (A B : Option Addr) (c d : Nat) (l k : List Int) (w0 : World) (m0 : List Res) (hA : Rd w0 m0 A (runes l)) (hB : Rd w0 m0 B (runes k)) (hn : l.length ≤ 140737488355328) :
    PureC Try.prog 43 [.slice A l.length c, .slice B k.length d] w0 m0 (.bool (decide (l = k))) := by
  refine Ct.of Try.func43 rfl (by kernel_rfl) rfl ?_
  by_cases hl : l.length = k.length
  · (refine c_sq fun k13 h13 => c_rg <| r_as rfl rfl <| r_nx h13 <| c_sq fun k15 h15 => c_sq fun k17 h17 => c_rg <| r_mv rfl rfl <| r_ls Try.underlying22 rfl rfl <| r_mv rfl rfl <| r_ls Try.underlying22 rfl rfl <| r_neF rfl rfl rfl (by omega) <| r_nx h17 <| c_cF rfl <| c_sk <| WE.then_n h15 <| c_sq fun k19 h19 => c_sq fun k21 h21 => c_rg <| r_mv rfl rfl <| r_ls Try.underlying22 rfl rfl <| r_mv rfl rfl <| r_nx h21 <| c_bl ?_; rotate_left)
    refine WC.loop (α := Nat) (fun i => [(0, .slice A l.length c), (1, .slice B k.length d), (12, .int .i64 l.length), (13, .int .i64 i)]) (fun _ => []) (fun i => i ≤ l.length ∧ l.take i = k.take i) (fun i => l.length - i) 0 ⟨by omega, rfl⟩ ⟨rfl, rfl, rfl, rfl, trivial⟩ Mem.keep ?_
    rintro i ⟨hi, ht⟩
    by_cases hlt : i < l.length
    · by_cases hc : l.getD i 0 = k.getD i 0
      · (refine c_sq fun k28 h28 => c_rg <| r_ltT rfl rfl rfl (by omega) <| r_nx h28 <| c_sq fun k30 h30 => c_cT rfl <| c_sk <| WE.then_n h30 <| c_sq fun k32 h32 => c_bl <| c_sq fun k34 h34 => c_rg <| r_mv rfl rfl <| r_as rfl rfl <| r_nx h34 <| c_sq fun k36 h36 => c_dr rfl (by kernel_rfl) (by kernel_rfl) <| r_mv rfl rfl <| r_mv rfl rfl <| r_im (hA.app _) Try.underlying22 (by kernel_rfl) rfl rfl rfl rfl (by omega) (by omega) <| r_li (i) (hA.app _) Try.underlying21 rfl rfl rfl (by omega) <| r_mv rfl rfl <| r_mv rfl rfl <| r_im (hB.app _) Try.underlying22 (by kernel_rfl) rfl rfl rfl rfl (by omega) (by omega) <| r_li (i) (hB.app _) Try.underlying21 rfl rfl rfl (by omega) <| r_neF rfl rfl rfl (by omega) <| r_nx h36 <| c_cF rfl <| c_sk <| WE.blk_n <| WE.then_n h32 <| c_rg <| r_ad rfl rfl rfl (wadd64 (by omega)) <| r_mv rfl rfl <| r_nl ?_; rotate_left)
        exact WE.back (i + 1) ⟨by omega, by rw [take_next hlt, take_next (show i < k.length by omega), ht, hc]⟩ (by omega) ⟨rfl, rfl, rfl, rfl, trivial⟩ Mem.keep
      · (refine c_sq fun k28 h28 => c_rg <| r_ltT rfl rfl rfl (by omega) <| r_nx h28 <| c_sq fun k30 h30 => c_cT rfl <| c_sk <| WE.then_n h30 <| c_sq fun k32 h32 => c_bl <| c_sq fun k34 h34 => c_rg <| r_mv rfl rfl <| r_as rfl rfl <| r_nx h34 <| c_sq fun k36 h36 => c_dr rfl (by kernel_rfl) (by kernel_rfl) <| r_mv rfl rfl <| r_mv rfl rfl <| r_im (hA.app _) Try.underlying22 (by kernel_rfl) rfl rfl rfl rfl (by omega) (by omega) <| r_li (i) (hA.app _) Try.underlying21 rfl rfl rfl (by omega) <| r_mv rfl rfl <| r_mv rfl rfl <| r_im (hB.app _) Try.underlying22 (by kernel_rfl) rfl rfl rfl rfl (by omega) (by omega) <| r_li (i) (hB.app _) Try.underlying21 rfl rfl rfl (by omega) <| r_neT rfl rfl rfl (by omega) <| r_nx h36 <| c_cT rfl <| c_sq fun k38 h38 => c_rg <| r_as rfl rfl <| r_nx h38 <| c_rt <| WE.blk_r <| WE.then_r <| WE.then_r <| WE.blk_r <| WE.then_r ?_; rotate_left)
        exact WE.ret1 () rfl rfl (by rw [decide_eq_false (fun e => hc (by rw [e]))]; rfl) trivial Mem.drop
    · have e : l = k := by
        rw [List.take_of_length_le (by omega), List.take_of_length_le (by omega)] at ht
        exact ht
      (refine c_sq fun k28 h28 => c_rg <| r_ltF rfl rfl rfl (by omega) <| r_nx h28 <| c_sq fun k30 h30 => c_cF rfl <| c_ex <| WE.then_x <| WE.then_x <| WE.blk_x <| WE.then_n h19 <| c_sq fun k32 h32 => c_rg <| r_as rfl rfl <| r_nx h32 <| c_rt ?_; rotate_left)
      exact WE.ret1 () rfl rfl (by rw [decide_eq_true e]; rfl) trivial Mem.drop
  · (refine c_sq fun k13 h13 => c_rg <| r_as rfl rfl <| r_nx h13 <| c_sq fun k15 h15 => c_sq fun k17 h17 => c_rg <| r_mv rfl rfl <| r_ls Try.underlying22 rfl rfl <| r_mv rfl rfl <| r_ls Try.underlying22 rfl rfl <| r_neT rfl rfl rfl (by omega) <| r_nx h17 <| c_cT rfl <| c_sq fun k19 h19 => c_rg <| r_as rfl rfl <| r_nx h19 <| c_rt <| WE.then_r ?_; rotate_left)
    exact WE.ret1 () rfl rfl (by rw [decide_eq_false (fun e => hl (by rw [e]))]; rfl) trivial Mem.drop
def mayP (l : List Int) : Bool := l.any (fun c => decide (128 ≤ c)) && !decide (MarkP l) && okAll l && decide (compR (mapAll l) = l)
set_option maxRecDepth 100000 in
theorem may_spec (A : Option Addr) (c : Nat) (l : List Int) (hn : l.length ≤ 1000000) (hl : ∀ n ∈ l, -2147483648 ≤ n ∧ n ≤ 2147483647) (w0 : World) (m0 : List Res) (hA : Rd w0 m0 A (runes l)) :
    PureC Try.prog 22 [.slice A l.length c] w0 m0 (.bool (mayP l)) := by
  have h1 := mapAll_length l
  have h2 := compR_length (mapAll l)
  have hany : ∀ mm, Rd w0 mm A (runes l) → PureC Try.prog 16 [.slice A l.length c, .func (.func 19) #[] #[]] w0 mm (.bool (l.any (fun c => decide (128 ≤ c)))) := fun mm h => containsFunc_spec A c l 19 [] (fun c => decide (128 ≤ c)) (by omega) w0 mm h (fun c m => above_spec c w0 (m ++ mm))
  have hmk : ∀ mm, Rd w0 mm A (runes l) → PureC Try.prog 23 [.slice A l.length c] w0 mm (.bool (decide (MarkP l))) := fun mm h => marked_spec A c l w0 mm h
  have hv : mayP l = (l.any (fun c => decide (128 ≤ c)) && !decide (MarkP l) && okAll l && decide (compR (mapAll l) = l)) := rfl
  generalize l.any (fun c => decide (128 ≤ c)) = b1 at hany hv
  generalize decide (MarkP l) = b2 at hmk hv
  refine Ct.of Try.func22 rfl (by kernel_rfl) rfl ?_
  rcases Bool.eq_false_or_eq_true (okAll l) with hok | hok
  · rw [hok] at hv
    (refine c_sq fun k20 h20 => c_rg <| r_as rfl rfl <| r_nx h20 <| c_sq fun k22 h22 => c_rg <| r_mv rfl rfl ?_; rotate_left)
    refine WX.call (m1 := []) (m2 := _) rfl rfl rfl (fold_ok A c l (by omega) (R32.of_mem hl) hok _ _ (hA.app _)) rfl rfl (fun p _ => ?_)
    have heq : ∀ mm, Rd w0 mm p.1 (runes (compR (mapAll l))) → Rd w0 mm A (runes l) → PureC Try.prog 43 [SlR p (compR (mapAll l)), .slice A l.length c] w0 mm (.bool (decide (compR (mapAll l) = l))) := fun mm g1 g2 => equal_spec _ _ _ _ _ _ w0 mm g1 g2 (by omega)
    generalize decide (compR (mapAll l) = l) = b3 at heq hv
    (refine r_mv rfl rfl <| r_ex rfl rfl rfl <| r_ex rfl rfl rfl <| r_as rfl rfl <| r_as rfl rfl <| r_nx h22 <| c_sq fun k29 h29 => c_rg <| r_mv rfl rfl ?_; rotate_left)
    refine WX.pure rfl rfl (hany _ (hA.app _)) rfl rfl ?_
    cases b1
    · (refine r_mv rfl rfl <| r_sk rfl rfl <| r_sk rfl rfl <| r_sk rfl rfl <| r_pF rfl rfl rfl <| r_mv rfl rfl <| r_sk rfl rfl <| r_sk rfl rfl <| r_pF rfl rfl rfl <| r_mv rfl rfl <| r_sk rfl rfl <| r_sk rfl rfl <| r_sk rfl rfl <| r_pF rfl rfl rfl <| r_as rfl rfl <| r_nx h29 <| c_rt ?_; rotate_left)
      exact WE.ret1 () rfl rfl (by rw [hv]; rfl) trivial Mem.drop
    · (refine r_mv rfl rfl <| r_mv rfl rfl ?_; rotate_left)
      refine WX.pure rfl rfl (hmk _ (hA.app _)) rfl rfl ?_
      cases b2
      · (refine r_no rfl rfl rfl <| r_pT rfl rfl rfl <| r_mv rfl rfl <| r_mv rfl rfl <| r_bk (.bool true) rfl rfl (fun _ => by kernel_rfl) rfl <| r_pT rfl rfl rfl <| r_mv rfl rfl <| r_mv rfl rfl <| r_mv rfl rfl ?_; rotate_left)
        refine WX.pure rfl rfl (heq _ (Rd.own 0 rfl) (hA.app _)) rfl rfl ?_
        cases b3
        · (refine r_pT rfl rfl rfl <| r_as rfl rfl <| r_nx h29 <| c_rt ?_; rotate_left)
          exact WE.ret1 () rfl rfl (by rw [hv]; rfl) trivial Mem.drop
        · (refine r_pT rfl rfl rfl <| r_as rfl rfl <| r_nx h29 <| c_rt ?_; rotate_left)
          exact WE.ret1 () rfl rfl (by rw [hv]; rfl) trivial Mem.drop
      · (refine r_no rfl rfl rfl <| r_pT rfl rfl rfl <| r_mv rfl rfl <| r_sk rfl rfl <| r_sk rfl rfl <| r_pF rfl rfl rfl <| r_mv rfl rfl <| r_sk rfl rfl <| r_sk rfl rfl <| r_sk rfl rfl <| r_pF rfl rfl rfl <| r_as rfl rfl <| r_nx h29 <| c_rt ?_; rotate_left)
        exact WE.ret1 () rfl rfl (by rw [hv]; rfl) trivial Mem.drop
  · rw [hok] at hv
    have hf : mayP l = false := by rw [hv]; cases b1 <;> cases b2 <;> rfl
    (refine c_sq fun k21 h21 => c_rg <| r_as rfl rfl <| r_nx h21 <| c_sq fun k23 h23 => c_rg <| r_mv rfl rfl ?_; rotate_left)
    refine WX.call (m1 := []) (m2 := _) rfl rfl rfl (fold_no A c l (by omega) (R32.of_mem hl) hok _ _ (hA.app _)) rfl rfl (fun b _ => ?_)
    simp only [ecv]
    (refine r_mv rfl rfl <| r_ex rfl rfl rfl <| r_ex rfl rfl rfl <| r_as rfl rfl <| r_as rfl rfl <| r_nx h23 <| c_sq fun k27 h27 => c_rg <| r_mv rfl rfl ?_; rotate_left)
    refine WX.pure rfl rfl (hany _ (hA.app _)) rfl rfl ?_
    cases b1
    · (refine r_mv rfl rfl <| r_sk rfl rfl <| r_sk rfl rfl <| r_sk rfl rfl <| r_pF rfl rfl rfl <| r_mv rfl rfl <| r_sk rfl rfl <| r_sk rfl rfl <| r_pF rfl rfl rfl <| r_mv rfl rfl <| r_sk rfl rfl <| r_sk rfl rfl <| r_sk rfl rfl <| r_pF rfl rfl rfl <| r_as rfl rfl <| r_nx h27 <| c_rt ?_; rotate_left)
      exact WE.ret1 () rfl rfl (by rw [hf]; rfl) trivial Mem.drop
    · (refine r_mv rfl rfl <| r_mv rfl rfl ?_; rotate_left)
      refine WX.pure rfl rfl (hmk _ (hA.app _)) rfl rfl ?_
      cases b2
      · (refine r_no rfl rfl rfl <| r_pT rfl rfl rfl <| r_mv rfl rfl <| r_mv rfl rfl <| r_bk (.bool false) rfl rfl (fun _ => by kernel_rfl) rfl <| r_pT rfl rfl rfl <| r_mv rfl rfl <| r_sk rfl rfl <| r_sk rfl rfl <| r_sk rfl rfl <| r_pF rfl rfl rfl <| r_as rfl rfl <| r_nx h27 <| c_rt ?_; rotate_left)
        exact WE.ret1 () rfl rfl (by rw [hf]; rfl) trivial Mem.drop
      · (refine r_no rfl rfl rfl <| r_pT rfl rfl rfl <| r_mv rfl rfl <| r_sk rfl rfl <| r_sk rfl rfl <| r_pF rfl rfl rfl <| r_mv rfl rfl <| r_sk rfl rfl <| r_sk rfl rfl <| r_sk rfl rfl <| r_pF rfl rfl rfl <| r_as rfl rfl <| r_nx h27 <| c_rt ?_; rotate_left)
        exact WE.ret1 () rfl rfl (by rw [hf]; rfl) trivial Mem.drop
end Go.Proofs.Ythnabbidlmihbaa
