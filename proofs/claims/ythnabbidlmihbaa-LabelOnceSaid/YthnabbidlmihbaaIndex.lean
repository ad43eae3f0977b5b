/- slices.Index, label.parts: the walks. -/
import Derived.Test.YthnabbidlmihbaaLeaf
import Derived.Test.YthnabbidlmihbaaCompose
namespace Go.Proofs.Ythnabbidlmihbaa
open Go.RowKit Go.Gp

/-- The first place of v, or -1. -/
def idxP (v : Int) (l : List Int) : Int := findFrom (fun c => decide (v = c)) l
set_option maxRecDepth 100000 in
theorem index_spec (A : Option Addr) (c : Nat) (l : List Int) (v : Int) (hn : l.length ≤ 9000000000000000000) (w0 : World) (m0 : List Res) (hA : Rd w0 m0 A (runes l)) :
    PureC Try.prog 30 [.slice A l.length c, .int .i32 v] w0 m0 (.int .i64 (idxP v l)) := by
  refine Ct.of Try.func30 rfl (by kernel_rfl) rfl ?_
  (refine c_sq fun k9 h9 => c_rg <| r_as rfl rfl <| r_nx h9 <| c_sq fun k11 h11 => c_sq fun k13 h13 => c_rg <| r_mv rfl rfl <| r_ls Try.underlying22 rfl rfl <| r_mv rfl rfl <| r_nx h13 <| c_bl ?_; rotate_left)
  refine WC.loop (α := Nat) (fun i => [(0, .slice A l.length c), (1, .int .i32 v), (7, .int .i64 l.length), (8, .int .i64 i)]) (fun _ => []) (fun i => i ≤ l.length ∧ ∀ j, j < i → ¬ v = l.getD j 0) (fun i => l.length - i) 0 ⟨by omega, by omega⟩ ⟨rfl, rfl, rfl, rfl, trivial⟩ Mem.keep ?_
  rintro i ⟨hi, hb⟩
  by_cases hlt : i < l.length
  · by_cases ht : v = l.getD i 0
    · (refine c_sq fun k20 h20 => c_rg <| r_ltT rfl rfl rfl (by omega) <| r_nx h20 <| c_sq fun k22 h22 => c_cT rfl <| c_sk <| WE.then_n h22 <| c_sq fun k24 h24 => c_bl <| c_sq fun k26 h26 => c_rg <| r_mv rfl rfl <| r_as rfl rfl <| r_nx h26 <| c_sq fun k28 h28 => c_rg <| r_mv rfl rfl <| r_mv rfl rfl <| r_mv rfl rfl <| r_im (hA.app _) Try.underlying22 (by kernel_rfl) rfl rfl rfl rfl (by omega) (by omega) <| r_li (i) (hA.app _) Try.underlying21 rfl rfl rfl (by omega) <| r_eqT rfl rfl rfl (by omega) <| r_nx h28 <| c_cT rfl <| c_sq fun k30 h30 => c_rg <| r_mv rfl rfl <| r_as rfl rfl <| r_nx h30 <| c_rt <| WE.blk_r <| WE.then_r <| WE.then_r <| WE.blk_r <| WE.then_r ?_; rotate_left)
      exact WE.ret1 () rfl rfl (by
        have : l.findIdx? (fun c => decide (v = c)) = some i := by
          rw [List.findIdx?_eq_some_iff_getElem]
          refine ⟨hlt, decide_eq_true (by have := ht; simp [hlt] at this; exact this), fun j hj => ?_⟩
          have := hb j hj
          have hj' : j < l.length := by omega
          simp [hj'] at this
          simp [this]
        unfold idxP findFrom
        rw [this]
        rfl) trivial Mem.drop
    · (refine c_sq fun k20 h20 => c_rg <| r_ltT rfl rfl rfl (by omega) <| r_nx h20 <| c_sq fun k22 h22 => c_cT rfl <| c_sk <| WE.then_n h22 <| c_sq fun k24 h24 => c_bl <| c_sq fun k26 h26 => c_rg <| r_mv rfl rfl <| r_as rfl rfl <| r_nx h26 <| c_sq fun k28 h28 => c_rg <| r_mv rfl rfl <| r_mv rfl rfl <| r_mv rfl rfl <| r_im (hA.app _) Try.underlying22 (by kernel_rfl) rfl rfl rfl rfl (by omega) (by omega) <| r_li (i) (hA.app _) Try.underlying21 rfl rfl rfl (by omega) <| r_eqF rfl rfl rfl (by omega) <| r_nx h28 <| c_cF rfl <| c_sk <| WE.blk_n <| WE.then_n h24 <| c_rg <| r_ad rfl rfl rfl (wadd64 (by omega)) <| r_mv rfl rfl <| r_nl ?_; rotate_left)
      exact WE.back (i + 1) ⟨by omega, fun j hj => by
        rcases Nat.lt_succ_iff_lt_or_eq.1 hj with h | h
        · exact hb j h
        · rw [h]; exact ht⟩ (by omega) ⟨rfl, rfl, rfl, rfl, trivial⟩ Mem.keep
  · (refine c_sq fun k19 h19 => c_rg <| r_ltF rfl rfl rfl (by omega) <| r_nx h19 <| c_sq fun k21 h21 => c_cF rfl <| c_ex <| WE.then_x <| WE.then_x <| WE.blk_x <| WE.then_n h11 <| c_sq fun k23 h23 => c_rg <| r_as rfl rfl <| r_nx h23 <| c_rt ?_; rotate_left)
    exact WE.ret1 () rfl rfl (by
      have : l.findIdx? (fun c => decide (v = c)) = none := by
        rw [List.findIdx?_eq_none_iff]
        intro x hx
        obtain ⟨j, hj, rfl⟩ := List.mem_iff_getElem.1 hx
        have := hb j (by omega)
        simp [hj] at this
        simp [this]
      unfold idxP findFrom
      rw [this]
      rfl) trivial Mem.drop
/-- label.parts: what it closes over lies in a new block. -/
theorem parts_spec (A : Option Addr) (n c : Nat) (w0 : World) (m0 : List Res) :
    Ct (α := Nat) Try.prog 11 [.slice A n c] w0 [] m0 (fun _ => True) (fun b => .func (.func 29) #[] #[.pointer (some ⟨b, 0, none⟩)]) (fun b => [.blk b [.slice A n c] 22]) := by
  refine Ct.of Try.func11 rfl (by kernel_rfl) rfl ?_
  (refine c_sq fun k6 h6 => c_rg <| r_bx rfl rfl rfl (fun _ => ?_); refine r_as rfl rfl <| r_nx h6 <| c_sq fun k9 h9 => c_rg <| r_fn rfl rfl <| r_as rfl rfl <| r_nx h9 <| c_rt ?_; rotate_left)
  exact WE.ret1 _ rfl rfl rfl trivial Mem.keep
end Go.Proofs.Ythnabbidlmihbaa
