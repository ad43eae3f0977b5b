/- puny: thresholds, the bias, numbers by digits: the contracts. -/
import Derived.Test.YthnabbidlmihbaaBuild
import Derived.Test.YthnabbidlmihbaaErr
namespace Go.Proofs.Ythnabbidlmihbaa
open Go.RowKit Go.Gp

def thrP (k bias : Int) : Int := min (max (k - bias) 1) 26
theorem thrP_bd (k bias : Int) : 1 ≤ thrP k bias ∧ thrP k bias ≤ 26 := by unfold thrP; omega
theorem threshold_spec (k bias : Int) (hk : 0 ≤ k ∧ k ≤ 1000000000000 ∧ 0 ≤ bias ∧ bias ≤ 1000000000000) (w0 : World) (m0 : List Res) : PureC Try.prog 56 [.int .i64 k, .int .i64 bias] w0 m0 (.int .i64 (thrP k bias)) := by
  refine Ct.of Try.func56 rfl (by kernel_rfl) rfl ?_
  (refine c_sq fun k6 h6 => c_rg <| r_as rfl rfl <| r_nx h6 <| c_sq fun k8 h8 => c_rg <| r_mv rfl rfl <| r_mv rfl rfl <| r_su rfl rfl rfl (wsub64 (by omega)) <| r_mx rfl rfl rfl <| r_mn rfl rfl rfl <| r_as rfl rfl <| r_nx h8 <| c_rt ?_; rotate_left)
  (rotate_left)
  exact WE.ret1 () rfl rfl rfl trivial Mem.drop

/-- The loop of the bias: what is left, and k. -/
def adL : Nat → Int → Int → Int × Int
  | 0, d, k => (d, k)
  | f + 1, d, k => if 455 < d then adL f (d / 35) (k + 36) else (d, k)
def adaptP (delta many : Int) (once : Bool) : Int :=
  let d0 := if once then delta / 700 else delta / 2
  let r := adL 13 (d0 + d0 / many) 0
  r.2 + 36 * r.1 / (r.1 + 38)
theorem adL_bd : ∀ (f : Nat) (d k : Int), 0 ≤ d → d < 456 * 35 ^ f → 0 ≤ (adL f d k).1 ∧ (adL f d k).1 ≤ 455 ∧ k ≤ (adL f d k).2 ∧ (adL f d k).2 ≤ k + 36 * f
  | 0, d, k, h, h2 => by
    simp only [Int.pow_zero, Int.mul_one] at h2
    simp only [adL]
    omega
  | f + 1, d, k, h, h2 => by
    rw [adL]
    split
    · have hd : d / 35 < 456 * 35 ^ f := by
        rw [Int.pow_succ] at h2
        exact Int.ediv_lt_of_lt_mul (by omega) (by rw [Int.mul_assoc]; exact h2)
      have := adL_bd f (d / 35) (k + 36) (by omega) hd
      omega
    · dsimp only
      omega
theorem adaptP_bd {delta many : Int} (h : 0 ≤ delta ∧ delta ≤ 4000000000000000000 ∧ 1 ≤ many) (once : Bool) : 0 ≤ adaptP delta many once ∧ adaptP delta many once ≤ 1000 := by
  dsimp only [adaptP]
  have hd : 0 ≤ (if once then delta / 700 else delta / 2) ∧ (if once then delta / 700 else delta / 2) ≤ 2000000000000000000 := by split <;> omega
  generalize (if once then delta / 700 else delta / 2) = d0 at hd
  have hq1 : 0 ≤ d0 / many := Int.ediv_nonneg hd.1 (by omega)
  have hq2 : d0 / many ≤ d0 := Int.ediv_le_self _ hd.1
  have := adL_bd 13 (d0 + d0 / many) 0 (by omega) (by
    have : (456 : Int) * 35 ^ 13 = 53932359308583984375000 := by decide +kernel
    omega)
  generalize adL 13 (d0 + d0 / many) 0 = r at this
  obtain ⟨d, k⟩ := r
  dsimp only at this ⊢
  have h1 : 0 ≤ 36 * d / (d + 38) := Int.ediv_nonneg (by omega) (by omega)
  have h2 : 36 * d / (d + 38) ≤ 36 := Int.ediv_le_of_le_mul (by omega) (by omega)
  omega
set_option maxRecDepth 100000 in
theorem adapt_spec (delta many : Int) (once : Bool) (h : 0 ≤ delta ∧ delta ≤ 4000000000000000000 ∧ 1 ≤ many) (w0 : World) (m0 : List Res) : PureC Try.prog 41 [.int .i64 delta, .int .i64 many, .bool once] w0 m0 (.int .i64 (adaptP delta many once)) := by
  have hf : (456 : Int) * 35 ^ 13 = 53932359308583984375000 := by decide +kernel
  have key : ∀ d0 : Int, 0 ≤ d0 → d0 ≤ 2000000000000000000 → adL 13 (d0 + d0 / many) 0 = adL 13 (d0 + d0 / many) 0 ∧ 0 ≤ d0 / many ∧ d0 / many ≤ d0 := fun d0 h1 h2 => ⟨rfl, Int.ediv_nonneg h1 (by omega), Int.ediv_le_self _ h1⟩
  refine Ct.of Try.func41 rfl (by kernel_rfl) rfl ?_
  cases once
  · obtain ⟨_, k1, k2⟩ := key (delta / 2) (by omega) (by omega)
    have eP : adaptP delta many false = (adL 13 (delta / 2 + delta / 2 / many) 0).2 + 36 * (adL 13 (delta / 2 + delta / 2 / many) 0).1 / ((adL 13 (delta / 2 + delta / 2 / many) 0).1 + 38) := rfl
    (refine c_sq fun k13 h13 => c_rg <| r_as rfl rfl <| r_nx h13 <| c_sq fun k15 h15 => c_sq fun k17 h17 => c_rg <| r_mv rfl rfl <| r_nx h17 <| c_cF rfl <| c_rg <| r_mv rfl rfl <| r_qu rfl rfl rfl (by omega) (wquo64 (by omega)) <| r_as rfl rfl <| r_nx h15 <| c_sq fun k19 h19 => c_rg <| r_mv rfl rfl <| r_mv rfl rfl <| r_mv rfl rfl <| r_qu rfl rfl rfl (by omega) (wquo64 (by omega)) <| r_ad rfl rfl rfl (wadd64 (by omega)) <| r_as rfl rfl <| r_nx h19 <| c_sq fun k21 h21 => c_rg <| r_as rfl rfl <| r_nx h21 <| c_sq fun k23 h23 => c_bl ?_; rotate_left)
    refine WC.loop (α := Nat × Int × Int) (fun x => [(0, .int .i64 x.2.1), (7, .int .i64 x.2.2)]) (fun _ => [])
      (fun x => adL x.1 x.2.1 x.2.2 = adL 13 (delta / 2 + delta / 2 / many) 0 ∧ (0 ≤ x.2.1 ∧ x.2.1 ≤ 4000000000000000000) ∧ x.2.1 < 456 * 35 ^ x.1 ∧ 0 ≤ x.2.2 ∧ x.2.2 + 36 * x.1 ≤ 468) (fun x => x.1) (13, delta / 2 + delta / 2 / many, 0) ⟨rfl, by dsimp only; omega, by dsimp only; omega, by dsimp only; omega, by dsimp only; omega⟩ ⟨rfl, rfl, trivial⟩ Mem.keep ?_
    rintro ⟨f, d, k⟩ ⟨e, h1, h2, h3, h4⟩
    dsimp only at e h1 h2 h3 h4 ⊢
    by_cases hlt : 455 < d
    · cases f with
      | zero => simp only [Int.pow_zero, Int.mul_one] at h2; omega
      | succ f =>
        have h5 : d / 35 < 456 * 35 ^ f := by
          rw [Int.pow_succ] at h2
          exact Int.ediv_lt_of_lt_mul (by omega) (by rw [Int.mul_assoc]; exact h2)
        rw [adL, if_pos hlt] at e
        (refine c_sq fun k41 h41 => c_sq fun k43 h43 => c_rg <| r_mv rfl rfl <| r_gtT rfl rfl rfl (by omega) <| r_nx h43 <| c_cT rfl <| c_sk <| WE.then_n h41 <| c_bl <| c_sq fun k45 h45 => c_rg <| r_mv rfl rfl <| r_qu rfl rfl rfl (by omega) (wquo64 (by omega)) <| r_as rfl rfl <| r_nx h45 <| c_rg <| r_mv rfl rfl <| r_ad rfl rfl rfl (wadd64 (by omega)) <| r_as rfl rfl <| r_nl <| WE.blk_n ?_; rotate_left)
        exact WE.back (f, d / 35, k + 36) ⟨e, by dsimp only; omega, h5, by dsimp only; omega, by dsimp only; omega⟩ (by simp) ⟨rfl, rfl, trivial⟩ Mem.keep
    · have e' : adL f d k = (d, k) := by cases f with | zero => rfl | succ f => rw [adL, if_neg hlt]
      have q1 : 0 ≤ 36 * d / (d + 38) := Int.ediv_nonneg (by omega) (by omega)
      have q2 : 36 * d / (d + 38) ≤ 36 := Int.ediv_le_of_le_mul (by omega) (by omega)
      (refine c_sq fun k37 h37 => c_sq fun k39 h39 => c_rg <| r_mv rfl rfl <| r_gtF rfl rfl rfl (by omega) <| r_nx h39 <| c_cF rfl <| c_ex <| WE.then_x <| WE.then_x <| WE.blk_x <| WE.then_n h23 <| c_sq fun k41 h41 => c_rg <| r_mv rfl rfl <| r_mv rfl rfl <| r_mu rfl rfl rfl (wmul64 (by omega)) <| r_mv rfl rfl <| r_ad rfl rfl rfl (wadd64 (by omega)) <| r_qu rfl rfl rfl (by omega) (wquo64 (by omega)) <| r_ad rfl rfl rfl (wadd64 (by omega)) <| r_as rfl rfl <| r_nx h41 <| c_rt ?_; rotate_left)
      exact WE.ret1 () rfl rfl (by rw [eP, ← e, e']; rfl) trivial Mem.drop
  · obtain ⟨_, k1, k2⟩ := key (delta / 700) (by omega) (by omega)
    have eP : adaptP delta many true = (adL 13 (delta / 700 + delta / 700 / many) 0).2 + 36 * (adL 13 (delta / 700 + delta / 700 / many) 0).1 / ((adL 13 (delta / 700 + delta / 700 / many) 0).1 + 38) := rfl
    (refine c_sq fun k13 h13 => c_rg <| r_as rfl rfl <| r_nx h13 <| c_sq fun k15 h15 => c_sq fun k17 h17 => c_rg <| r_mv rfl rfl <| r_nx h17 <| c_cT rfl <| c_rg <| r_mv rfl rfl <| r_qu rfl rfl rfl (by omega) (wquo64 (by omega)) <| r_as rfl rfl <| r_nx h15 <| c_sq fun k19 h19 => c_rg <| r_mv rfl rfl <| r_mv rfl rfl <| r_mv rfl rfl <| r_qu rfl rfl rfl (by omega) (wquo64 (by omega)) <| r_ad rfl rfl rfl (wadd64 (by omega)) <| r_as rfl rfl <| r_nx h19 <| c_sq fun k21 h21 => c_rg <| r_as rfl rfl <| r_nx h21 <| c_sq fun k23 h23 => c_bl ?_; rotate_left)
    refine WC.loop (α := Nat × Int × Int) (fun x => [(0, .int .i64 x.2.1), (7, .int .i64 x.2.2)]) (fun _ => [])
      (fun x => adL x.1 x.2.1 x.2.2 = adL 13 (delta / 700 + delta / 700 / many) 0 ∧ (0 ≤ x.2.1 ∧ x.2.1 ≤ 4000000000000000000) ∧ x.2.1 < 456 * 35 ^ x.1 ∧ 0 ≤ x.2.2 ∧ x.2.2 + 36 * x.1 ≤ 468) (fun x => x.1) (13, delta / 700 + delta / 700 / many, 0) ⟨rfl, by dsimp only; omega, by dsimp only; omega, by dsimp only; omega, by dsimp only; omega⟩ ⟨rfl, rfl, trivial⟩ Mem.keep ?_
    rintro ⟨f, d, k⟩ ⟨e, h1, h2, h3, h4⟩
    dsimp only at e h1 h2 h3 h4 ⊢
    by_cases hlt : 455 < d
    · cases f with
      | zero => simp only [Int.pow_zero, Int.mul_one] at h2; omega
      | succ f =>
        have h5 : d / 35 < 456 * 35 ^ f := by
          rw [Int.pow_succ] at h2
          exact Int.ediv_lt_of_lt_mul (by omega) (by rw [Int.mul_assoc]; exact h2)
        rw [adL, if_pos hlt] at e
        (refine c_sq fun k41 h41 => c_sq fun k43 h43 => c_rg <| r_mv rfl rfl <| r_gtT rfl rfl rfl (by omega) <| r_nx h43 <| c_cT rfl <| c_sk <| WE.then_n h41 <| c_bl <| c_sq fun k45 h45 => c_rg <| r_mv rfl rfl <| r_qu rfl rfl rfl (by omega) (wquo64 (by omega)) <| r_as rfl rfl <| r_nx h45 <| c_rg <| r_mv rfl rfl <| r_ad rfl rfl rfl (wadd64 (by omega)) <| r_as rfl rfl <| r_nl <| WE.blk_n ?_; rotate_left)
        exact WE.back (f, d / 35, k + 36) ⟨e, by dsimp only; omega, h5, by dsimp only; omega, by dsimp only; omega⟩ (by simp) ⟨rfl, rfl, trivial⟩ Mem.keep
    · have e' : adL f d k = (d, k) := by cases f with | zero => rfl | succ f => rw [adL, if_neg hlt]
      have q1 : 0 ≤ 36 * d / (d + 38) := Int.ediv_nonneg (by omega) (by omega)
      have q2 : 36 * d / (d + 38) ≤ 36 := Int.ediv_le_of_le_mul (by omega) (by omega)
      (refine c_sq fun k37 h37 => c_sq fun k39 h39 => c_rg <| r_mv rfl rfl <| r_gtF rfl rfl rfl (by omega) <| r_nx h39 <| c_cF rfl <| c_ex <| WE.then_x <| WE.then_x <| WE.blk_x <| WE.then_n h23 <| c_sq fun k41 h41 => c_rg <| r_mv rfl rfl <| r_mv rfl rfl <| r_mu rfl rfl rfl (wmul64 (by omega)) <| r_mv rfl rfl <| r_ad rfl rfl rfl (wadd64 (by omega)) <| r_qu rfl rfl rfl (by omega) (wquo64 (by omega)) <| r_ad rfl rfl rfl (wadd64 (by omega)) <| r_as rfl rfl <| r_nx h41 <| c_rt ?_; rotate_left)
      exact WE.ret1 () rfl rfl (by rw [eP, ← e, e']; rfl) trivial Mem.drop
end Go.Proofs.Ythnabbidlmihbaa
