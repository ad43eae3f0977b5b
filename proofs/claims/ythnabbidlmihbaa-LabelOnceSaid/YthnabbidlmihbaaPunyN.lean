/- puny: a number by digits; the error of the layer: the contracts. -/
import Derived.Test.YthnabbidlmihbaaPunyA
namespace Go.Proofs.Ythnabbidlmihbaa
open Go.RowKit Go.Gp

def digitsB : ByteArray := ⟨#[97, 98, 99, 100, 101, 102, 103, 104, 105, 106, 107, 108, 109, 110, 111, 112, 113, 114, 115, 116, 117, 118, 119, 120, 121, 122, 48, 49, 50, 51, 52, 53, 54, 55, 56, 57]⟩
def dig (n : Int) : UInt8 := digitsB.data.getD n.toNat 0
theorem dig_at {n : Int} (h : 0 ≤ n) (h2 : n < 36) : digitsB.data[n.toNat]? = some (dig n) := by
  have : n.toNat < digitsB.data.size := by show n.toNat < 36; omega
  unfold dig
  rw [Array.getD_eq_getD_getElem?, Array.getElem?_eq_getElem this]
  rfl
/-- A number by digits. -/
def numL (bias : Int) : Nat → Int → Int → List UInt8
  | 0, _, _ => []
  | f + 1, q, k => if q < thrP k bias then [dig q] else dig (thrP k bias + (q - thrP k bias) % (36 - thrP k bias)) :: numL bias f ((q - thrP k bias) / (36 - thrP k bias)) (k + 36)
def numP (q bias : Int) : List UInt8 := numL bias 20 q 36
theorem numL_len (bias : Int) : ∀ (f : Nat) (q k : Int), (numL bias f q k).length ≤ f
  | 0, _, _ => by simp [numL]
  | f + 1, q, k => by
    rw [numL]
    split
    · simp
    · have := numL_len bias f ((q - thrP k bias) / (36 - thrP k bias)) (k + 36)
      simp; omega
def strOf (l : List UInt8) : ByteArray := ⟨l.toArray⟩
set_option maxRecDepth 100000 in
theorem number_spec (q bias : Int) (hq : 0 ≤ q ∧ q ≤ 4000000000000000000) (hb : 0 ≤ bias ∧ bias ≤ 1000) (w0 : World) (m0 : List Res) : PureC Try.prog 48 [.int .i64 q, .int .i64 bias] w0 m0 (.string (strOf (numP q bias))) := by
  have hf : (10 : Int) ^ 19 = 10000000000000000000 := by decide +kernel
  refine Ct.of Try.func48 rfl (by kernel_rfl) rfl ?_
  (refine c_sq fun k8 h8 => c_rg <| r_as rfl rfl <| r_nx h8 <| c_sq fun k10 h10 => c_rg <| r_al (z := .agg #[.pointer none, .slice none 0 0]) (cs := [.pointer none, .slice none 0 0]) (fun _ => by kernel_rfl) rfl rfl (fun _ => ?_); refine r_nx h10 <| c_sq fun k13 h13 => c_rg <| r_as rfl rfl <| r_nx h13 <| c_bl ?_; rotate_left)
  rename_i g
  refine WC.loop (α := Nat × Int × Int × List UInt8 × Bool × (Option Addr × Nat)) (fun x => [(0, .int .i64 x.2.1), (1, .int .i64 bias), (5, .pointer (some ⟨g, 0, none⟩)), (6, .int .i64 x.2.2.1)])
    (fun x => [BB x.2.2.2.2.1 g x.2.2.2.2.2 x.2.2.2.1, OwnB x.2.2.2.2.2 x.2.2.2.1])
    (fun x => x.2.2.2.1 ++ numL bias (x.1 + 1) x.2.1 x.2.2.1 = numP q bias ∧ (0 ≤ x.2.1 ∧ x.2.1 ≤ 4000000000000000000) ∧ x.2.1 < 10 ^ x.1 ∧ (0 ≤ x.2.2.1 ∧ x.2.2.1 + 36 * x.1 ≤ 720) ∧ x.2.2.2.1.length + x.1 ≤ 19) (fun x => x.1)
    (19, q, 36, [], false, (none, 0)) ⟨rfl, by dsimp only; omega, by dsimp only; omega, by dsimp only; omega, by simp⟩ ⟨rfl, rfl, rfl, rfl, trivial⟩ (fun w hw => Mem.pick (m' := [BB false g (none, 0) [], OwnB (none, 0) []]) [1, 0] (by decide) rfl w (Mem.addNil _ _ w hw)) ?_
  rintro ⟨f, q1, k, acc, u, p⟩ ⟨e, h1, h2, h3, h4⟩
  dsimp only at e h1 h2 h3 h4 ⊢
  have ht := thrP_bd k bias
  (refine c_sq fun k27 h27 => c_bl <| c_sq fun k29 h29 => c_rg <| r_mv rfl rfl <| r_mv rfl rfl ?_; rotate_left)
  refine WX.pure rfl rfl (threshold_spec k bias (by omega) _ _) rfl rfl ?_
  by_cases hlt : q1 < thrP k bias
  · (refine r_as rfl rfl <| r_nx h29 <| c_sq fun k32 h32 => c_sq fun k34 h34 => c_rg <| r_mv rfl rfl <| r_mv rfl rfl <| r_ltT rfl rfl rfl (by omega) <| r_nx h34 <| c_cT rfl <| c_sq fun k36 h36 => c_rg <| r_mv rfl rfl ?_; rotate_left)
    refine r_iS (v := dig q1) Try.underlying9 rfl rfl rfl (by omega) (dig_at (by omega) (by omega)) ?_
    refine WX.call (m1 := [BB u g p acc, OwnB p acc]) (m2 := []) rfl rfl rfl (writeByte_spec u g p acc (dig q1) (by omega) _ _) rfl rfl (fun p2 _ => ?_)
    (refine r_nx h36 <| c_sq fun k40 h40 => c_rg ?_; rotate_left)
    refine WX.call (m1 := [BB true g p2 (acc ++ [dig q1]), OwnB p2 (acc ++ [dig q1])]) (m2 := []) rfl rfl rfl (bString_spec true g p2 (acc ++ [dig q1]) (by simp; omega) (fun h => by simp at h) _ _) rfl rfl (fun _ _ => ?_)
    (refine r_as rfl rfl <| r_nx h40 <| c_rt <| WE.then_r <| WE.blk_r <| WE.then_r <| WE.then_r <| WE.blk_r ?_; rotate_left)
    exact WE.ret1 () rfl rfl (by rw [← e, numL, if_pos hlt]; rfl) trivial Mem.keep
  · cases f with
    | zero => simp only [Int.pow_zero] at h2; omega
    | succ f =>
      have r1 : 0 ≤ (q1 - thrP k bias) % (36 - thrP k bias) := Int.emod_nonneg _ (by omega)
      have r2 : (q1 - thrP k bias) % (36 - thrP k bias) < 36 - thrP k bias := Int.emod_lt_of_pos _ (by omega)
      have r3 : 0 ≤ (q1 - thrP k bias) / (36 - thrP k bias) := Int.ediv_nonneg (by omega) (by omega)
      have r4 : (q1 - thrP k bias) / (36 - thrP k bias) < 10 ^ f := by
        rw [Int.pow_succ] at h2
        refine Int.ediv_lt_of_lt_mul (by omega) ?_
        have h0 : (0 : Int) < 10 ^ f := Int.pow_pos (by decide)
        have : 10 ^ f * 10 ≤ 10 ^ f * (36 - thrP k bias) := Int.mul_le_mul_of_nonneg_left (by omega) (by omega)
        omega
      have r5 : (q1 - thrP k bias) / (36 - thrP k bias) ≤ q1 - thrP k bias := Int.ediv_le_self _ (by omega)
      (refine r_as rfl rfl <| r_nx h29 <| c_sq fun k44 h44 => c_sq fun k46 h46 => c_rg <| r_mv rfl rfl <| r_mv rfl rfl <| r_ltF rfl rfl rfl (by omega) <| r_nx h46 <| c_cF rfl <| c_sk <| WE.then_n h44 <| c_sq fun k48 h48 => c_rg <| r_mv rfl rfl <| r_mv rfl rfl <| r_mv rfl rfl <| r_su rfl rfl rfl (wsub64 (by omega)) <| r_mv rfl rfl <| r_su rfl rfl rfl (wsub64 (by omega)) <| r_re rfl rfl rfl (by omega) (wrem (by omega)) <| r_ad rfl rfl rfl (wadd64 (by omega)) ?_; rotate_left)
      refine r_iS (v := dig (thrP k bias + (q1 - thrP k bias) % (36 - thrP k bias))) Try.underlying9 rfl rfl rfl (by omega) (dig_at (by omega) (by omega)) ?_
      refine WX.call (m1 := [BB u g p acc, OwnB p acc]) (m2 := []) rfl rfl rfl (writeByte_spec u g p acc _ (by omega) _ _) rfl rfl (fun p2 _ => ?_)
      (refine r_nx h48 <| c_rg <| r_mv rfl rfl <| r_mv rfl rfl <| r_su rfl rfl rfl (wsub64 (by omega)) <| r_mv rfl rfl <| r_su rfl rfl rfl (wsub64 (by omega)) <| r_qu rfl rfl rfl (by omega) (wquo64 (by omega)) <| r_as rfl rfl <| r_nl <| WE.blk_n <| WE.then_n h27 <| c_rg <| r_mv rfl rfl <| r_ad rfl rfl rfl (wadd64 (by omega)) <| r_as rfl rfl <| r_nl ?_; rotate_left)
      exact WE.back (f, (q1 - thrP k bias) / (36 - thrP k bias), k + 36, acc ++ [dig (thrP k bias + (q1 - thrP k bias) % (36 - thrP k bias))], true, p2) ⟨by
        dsimp only
        rw [numL, if_neg hlt] at e
        rw [List.append_assoc]
        exact e, by dsimp only; omega, r4, by dsimp only; omega, by simp; omega⟩ (by dsimp only; omega) ⟨rfl, rfl, rfl, rfl, trivial⟩ Mem.keep
end Go.Proofs.Ythnabbidlmihbaa
