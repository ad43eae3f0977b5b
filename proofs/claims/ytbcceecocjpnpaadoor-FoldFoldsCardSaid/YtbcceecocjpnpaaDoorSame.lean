/- Whether two slices of runes hold the same: the contract of the reference's Same. -/
import Derived.Test.YtbcceecocjpnpaaDoorMap
namespace Go.Proofs.YtbcceecocjpnpaaDoor
open Go.RowKit Go.Gp

theorem take_same {l k : List Int} {i : Nat} (h : l.take i = k.take i) (hi : i < l.length) (hk : i < k.length) (e : l.getD i 0 = k.getD i 0) : l.take (i + 1) = k.take (i + 1) := by
  rw [List.take_succ_eq_append_getElem hi, List.take_succ_eq_append_getElem hk, h]
  simp [hi, hk] at e
  rw [e]
set_option maxRecDepth 100000 in
theorem same_spec (A B : Option Addr) (c d : Nat) (l k : List Int) (w0 : World) (m0 : List Res) (hA : Rd w0 m0 A (runes l)) (hB : Rd w0 m0 B (runes k)) (hn : l.length ≤ 140737488355328) :
    PureC Tryd.prog 7 [.slice A l.length c, .slice B k.length d] w0 m0 (.bool (decide (l = k))) := by
  refine Ct.of Tryd.func7 rfl (by kernel_rfl) rfl ?_
  by_cases hl : l.length = k.length
  · (refine c_sq fun k13 h13 => c_rg <| r_as rfl rfl <| r_nx h13 <| c_sq fun k15 h15 => c_sq fun k17 h17 => c_rg <| r_mv rfl rfl <| r_ls Tryd.underlying22 rfl rfl <| r_mv rfl rfl <| r_ls Tryd.underlying22 rfl rfl <| r_neF rfl rfl rfl (by omega) <| r_nx h17 <| c_cF rfl <| c_sk <| WE.then_n h15 <| c_sq fun k19 h19 => c_sq fun k21 h21 => c_rg <| r_as rfl rfl <| r_nx h21 <| c_bl ?_; rotate_left)
    refine WC.loop (α := Nat) (fun i => [(0, .slice A l.length c), (1, .slice B k.length d), (5, .int .i64 i)]) (fun _ => []) (fun i => i ≤ l.length ∧ l.take i = k.take i) (fun i => l.length - i) 0 ⟨by omega, by simp⟩ ⟨rfl, rfl, rfl, trivial⟩ Mem.keep ?_
    rintro i ⟨hi, ht⟩
    by_cases hlt : i < l.length
    · by_cases he : l.getD i 0 = k.getD i 0
      · (refine c_sq fun k28 h28 => c_sq fun k30 h30 => c_rg <| r_mv rfl rfl <| r_mv rfl rfl <| r_ls Tryd.underlying22 rfl rfl <| r_ltT rfl rfl rfl (by omega) <| r_nx h30 <| c_cT rfl <| c_sk <| WE.then_n h28 <| c_sq fun k32 h32 => c_bl <| c_sq fun k34 h34 => c_dr rfl (by kernel_rfl) (by kernel_rfl) <| r_mv rfl rfl <| r_mv rfl rfl <| r_im (hA.app _) Tryd.underlying22 (by kernel_rfl) rfl rfl rfl rfl (by omega) (by omega) <| r_li (i) (hA.app _) Tryd.underlying21 rfl rfl rfl (by omega) <| r_mv rfl rfl <| r_mv rfl rfl <| r_im (hB.app _) Tryd.underlying22 (by kernel_rfl) rfl rfl rfl rfl (by omega) (by omega) <| r_li (i) (hB.app _) Tryd.underlying21 rfl rfl rfl (by omega) <| r_neF rfl rfl rfl (by omega) <| r_nx h34 <| c_cF rfl <| c_sk <| WE.blk_n <| WE.then_n h32 <| c_rg <| r_mv rfl rfl <| r_ad rfl rfl rfl (wadd64 (by omega)) <| r_as rfl rfl <| r_nl ?_; rotate_left)
        exact WE.back (i + 1) ⟨by omega, take_same ht hlt (by omega) he⟩ (by omega) ⟨rfl, rfl, rfl, trivial⟩ Mem.keep
      · (refine c_sq fun k28 h28 => c_sq fun k30 h30 => c_rg <| r_mv rfl rfl <| r_mv rfl rfl <| r_ls Tryd.underlying22 rfl rfl <| r_ltT rfl rfl rfl (by omega) <| r_nx h30 <| c_cT rfl <| c_sk <| WE.then_n h28 <| c_sq fun k32 h32 => c_bl <| c_sq fun k34 h34 => c_dr rfl (by kernel_rfl) (by kernel_rfl) <| r_mv rfl rfl <| r_mv rfl rfl <| r_im (hA.app _) Tryd.underlying22 (by kernel_rfl) rfl rfl rfl rfl (by omega) (by omega) <| r_li (i) (hA.app _) Tryd.underlying21 rfl rfl rfl (by omega) <| r_mv rfl rfl <| r_mv rfl rfl <| r_im (hB.app _) Tryd.underlying22 (by kernel_rfl) rfl rfl rfl rfl (by omega) (by omega) <| r_li (i) (hB.app _) Tryd.underlying21 rfl rfl rfl (by omega) <| r_neT rfl rfl rfl (by omega) <| r_nx h34 <| c_cT rfl <| c_sq fun k36 h36 => c_rg <| r_as rfl rfl <| r_nx h36 <| c_rt <| WE.blk_r <| WE.then_r <| WE.then_r <| WE.blk_r <| WE.then_r ?_; rotate_left)
        exact WE.ret1 () rfl rfl (by rw [decide_eq_false (fun e => he (by rw [e]))]; rfl) trivial Mem.drop
    · have hi' : i = l.length := by omega
      (refine c_sq fun k28 h28 => c_sq fun k30 h30 => c_rg <| r_mv rfl rfl <| r_mv rfl rfl <| r_ls Tryd.underlying22 rfl rfl <| r_ltF rfl rfl rfl (by omega) <| r_nx h30 <| c_cF rfl <| c_ex <| WE.then_x <| WE.then_x <| WE.blk_x <| WE.then_n h19 <| c_sq fun k32 h32 => c_rg <| r_as rfl rfl <| r_nx h32 <| c_rt ?_; rotate_left)
      have e : l = k := by
        rw [hi', List.take_of_length_le (Nat.le_refl _), List.take_of_length_le (by omega)] at ht
        exact ht
      exact WE.ret1 () rfl rfl (by rw [decide_eq_true e]; rfl) trivial Mem.drop
  · (refine c_sq fun k13 h13 => c_rg <| r_as rfl rfl <| r_nx h13 <| c_sq fun k15 h15 => c_sq fun k17 h17 => c_rg <| r_mv rfl rfl <| r_ls Tryd.underlying22 rfl rfl <| r_mv rfl rfl <| r_ls Tryd.underlying22 rfl rfl <| r_neT rfl rfl rfl (by omega) <| r_nx h17 <| c_cT rfl <| c_sq fun k19 h19 => c_rg <| r_as rfl rfl <| r_nx h19 <| c_rt <| WE.then_r ?_; rotate_left)
    exact WE.ret1 () rfl rfl (by rw [decide_eq_false (fun e => hl (by rw [e]))]; rfl) trivial Mem.drop
theorem same_eq {A B : Option Addr} {c d : Nat} (l k : List Int) (h : l = k) (hn : l.length ≤ 140737488355328) (w0 : World) (m0 : List Res) (hA : Rd w0 m0 A (runes l)) (hB : Rd w0 m0 B (runes k)) :
    PureC Tryd.prog 7 [.slice A l.length c, .slice B k.length d] w0 m0 (.bool true) := by
  have hs := same_spec A B c d l k w0 m0 hA hB hn
  rwa [decide_eq_true h] at hs
end Go.Proofs.YtbcceecocjpnpaaDoor
