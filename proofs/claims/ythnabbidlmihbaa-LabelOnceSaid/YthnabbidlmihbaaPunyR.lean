/- puny: a number with which a text begins: the contracts of strings.IndexByte, strings.LastIndexByte and puny.read. -/
import Derived.Test.YthnabbidlmihbaaPunyN
import Derived.Lib.Bytealg
namespace Go.Proofs.Ythnabbidlmihbaa
open Go.RowKit Go.Gp

/-- A digit's number, or -1. -/
def valD (c : UInt8) : Int := Go.Lib.indexByte digitsB.data.toList c
theorem valD_bd (c : UInt8) : -1 ≤ valD c ∧ valD c ≤ 35 := by
  have h : ∀ n : Fin 256, -1 ≤ valD (UInt8.ofNat n.1) ∧ valD (UInt8.ofNat n.1) ≤ 35 := by decide +kernel
  have := h ⟨c.toNat, c.toNat_lt⟩
  simpa using this
theorem x_idx (s : ByteArray) (c : UInt8) (w : World) : (callFunc 67 #[.string s, .int .u8 c.toNat]).run Try.prog w = .ok (.value (.int .i64 (Go.Lib.indexByte s.data.toList c))) w := by
  rw [run_callFunc_extern (e := Extern.BytealgIndexByte.indexByte) Try.func67 (by kernel_rfl) (by kernel_rfl) (by kernel_rfl) (by kernel_rfl), Go.Lib.run_indexByteString]
  simp
theorem idx0_spec (s : ByteArray) (c : UInt8) (w0 : World) (m0 : List Res) : PureC Try.prog 64 [.string s, .int .u8 c.toNat] w0 m0 (.int .i64 (Go.Lib.indexByte s.data.toList c)) := by
  refine Ct.of Try.func64 rfl (by kernel_rfl) rfl ?_
  (refine c_sq fun k5 h5 => c_rg <| r_as rfl rfl <| r_nx h5 <| c_sq fun k7 h7 => c_rg <| r_mv rfl rfl <| r_mv rfl rfl ?_; rotate_left)
  refine r_xv rfl rfl (fun w => x_idx s c w) rfl ?_
  (refine r_as rfl rfl <| r_nx h7 <| c_rt ?_; rotate_left)
  exact WE.ret1 () rfl rfl rfl trivial Mem.drop
theorem idx_spec (s : ByteArray) (c : UInt8) (w0 : World) (m0 : List Res) : PureC Try.prog 55 [.string s, .int .u8 c.toNat] w0 m0 (.int .i64 (Go.Lib.indexByte s.data.toList c)) := by
  refine Ct.of Try.func55 rfl (by kernel_rfl) rfl ?_
  (refine c_sq fun k5 h5 => c_rg <| r_as rfl rfl <| r_nx h5 <| c_sq fun k7 h7 => c_rg <| r_mv rfl rfl <| r_mv rfl rfl ?_; rotate_left)
  refine WX.pure rfl rfl (idx0_spec s c _ _) rfl rfl ?_
  (refine r_as rfl rfl <| r_nx h7 <| c_rt ?_; rotate_left)
  exact WE.ret1 () rfl rfl rfl trivial Mem.drop
theorem byte_at (s : ByteArray) {k : Nat} (h : k < s.size) : s.data[k]? = some (s.data.toList.getD k 0) := by
  have h' : k < s.data.size := h
  rw [Array.getElem?_eq_getElem h', List.getD_eq_getElem?_getD, List.getElem?_eq_getElem (by simpa using h')]
  simp
/-- The last place before k. -/
def lastL (l : List UInt8) (c : UInt8) : Nat → Int
  | 0 => -1
  | k + 1 => if l.getD k 0 = c then (k : Int) else lastL l c k
theorem lastL_bd (l : List UInt8) (c : UInt8) : ∀ k, -1 ≤ lastL l c k ∧ lastL l c k < k
  | 0 => by simp [lastL]
  | k + 1 => by
    have := lastL_bd l c k
    rw [lastL]
    split <;> omega
set_option maxRecDepth 100000 in
theorem last0_spec (s : ByteArray) (c : UInt8) (hn : s.size ≤ 9000000000000000000) (w0 : World) (m0 : List Res) : PureC Try.prog 54 [.string s, .int .u8 c.toNat] w0 m0 (.int .i64 (lastL s.data.toList c s.size)) := by
  refine Ct.of Try.func54 rfl (by kernel_rfl) rfl ?_
  (refine c_sq fun k6 h6 => c_rg <| r_as rfl rfl <| r_nx h6 <| c_sq fun k8 h8 => c_sq fun k10 h10 => c_rg <| r_mv rfl rfl <| r_lS Try.underlying9 rfl rfl <| r_su rfl rfl rfl (wsub64 (by omega)) <| r_as rfl rfl <| r_nx h10 <| c_bl ?_; rotate_left)
  refine WC.loop (α := Nat) (fun k => [(0, .string s), (1, .int .u8 c.toNat), (5, .int .i64 ((k : Int) - 1))]) (fun _ => []) (fun k => k ≤ s.size ∧ lastL s.data.toList c k = lastL s.data.toList c s.size) (fun k => k) s.size ⟨Nat.le_refl _, rfl⟩ ⟨rfl, rfl, rfl, trivial⟩ Mem.keep ?_
  rintro k ⟨hk, e⟩
  cases k with
  | zero =>
    (refine c_sq fun k14 h14 => c_sq fun k16 h16 => c_rg <| r_mv rfl rfl <| r_geF rfl rfl rfl (by omega) <| r_nx h16 <| c_cF rfl <| c_ex <| WE.then_x <| WE.then_x <| WE.blk_x <| WE.then_n h8 <| c_sq fun k18 h18 => c_rg <| r_as rfl rfl <| r_nx h18 <| c_rt ?_; rotate_left)
    exact WE.ret1 () rfl rfl (by rw [← e]; rfl) trivial Mem.drop
  | succ k =>
    have hlt : k < s.data.size := hk
    have e1 : ((k + 1 : Nat) : Int) - 1 = (k : Int) := by omega
    rw [lastL] at e
    rw [e1]
    (refine c_sq fun k21 h21 => c_sq fun k23 h23 => c_rg <| r_mv rfl rfl <| r_geT rfl rfl rfl (by omega) <| r_nx h23 <| c_cT rfl <| c_sk <| WE.then_n h21 <| c_sq fun k25 h25 => c_bl <| c_sq fun k27 h27 => c_rg <| r_mv rfl rfl <| r_mv rfl rfl ?_; rotate_left)
    refine r_iS (v := s.data.toList.getD k 0) Try.underlying9 rfl rfl rfl (by omega) (byte_at s hlt) ?_
    by_cases hc : s.data.toList.getD k 0 = c
    · rw [if_pos hc] at e
      have hc2 : ((s.data.toList.getD k 0).toNat : Int) = (c.toNat : Int) := by rw [hc]
      (refine r_mv rfl rfl <| r_eqT rfl rfl rfl (by omega) <| r_nx h27 <| c_cT rfl <| c_sq fun k32 h32 => c_rg <| r_mv rfl rfl <| r_as rfl rfl <| r_nx h32 <| c_rt <| WE.blk_r <| WE.then_r <| WE.then_r <| WE.blk_r <| WE.then_r ?_; rotate_left)
      exact WE.ret1 () rfl rfl (by rw [← e]; rfl) trivial Mem.drop
    · rw [if_neg hc] at e
      have hc2 : ¬ ((s.data.toList.getD k 0).toNat : Int) = (c.toNat : Int) := fun h => hc (UInt8.toNat_inj.1 (by omega))
      (refine r_mv rfl rfl <| r_eqF rfl rfl rfl (by omega) <| r_nx h27 <| c_cF rfl <| c_sk <| WE.blk_n <| WE.then_n h25 <| c_rg <| r_mv rfl rfl <| r_su rfl rfl rfl (wsub64 (by omega)) <| r_as rfl rfl <| r_nl ?_; rotate_left)
      exact WE.back k ⟨by omega, e⟩ (by omega) ⟨rfl, rfl, rfl, trivial⟩ Mem.keep
theorem last_spec (s : ByteArray) (c : UInt8) (hn : s.size ≤ 9000000000000000000) (w0 : World) (m0 : List Res) : PureC Try.prog 39 [.string s, .int .u8 c.toNat] w0 m0 (.int .i64 (lastL s.data.toList c s.size)) := by
  refine Ct.of Try.func39 rfl (by kernel_rfl) rfl ?_
  (refine c_sq fun k6 h6 => c_rg <| r_as rfl rfl <| r_nx h6 <| c_sq fun k8 h8 => c_rg <| r_mv rfl rfl <| r_mv rfl rfl ?_; rotate_left)
  refine WX.pure rfl rfl (last0_spec s c hn _ _) rfl rfl ?_
  (refine r_as rfl rfl <| r_nx h8 <| c_rt ?_; rotate_left)
  exact WE.ret1 () rfl rfl rfl trivial Mem.drop

/-- A number with which a text begins, and how many letters it has. -/
def lowB (c : UInt8) : UInt8 := if 65 ≤ c.toNat ∧ c.toNat ≤ 90 then c + 32 else c
def readL (bias : Int) : List UInt8 → Nat → Int → Int → Int × Int
  | [], _, _, _ => (0, 0)
  | c :: r, a, i, w =>
    if valD (lowB c) < 0 ∨ 1099511627776 < i + valD (lowB c) * w then (0, 0)
    else if valD (lowB c) < thrP (((a : Int) + 1) * 36) bias then (i + valD (lowB c) * w, (a : Int) + 1)
    else if 1099511627776 < w * (36 - thrP (((a : Int) + 1) * 36) bias) then (0, 0)
    else readL bias r (a + 1) (i + valD (lowB c) * w) (w * (36 - thrP (((a : Int) + 1) * 36) bias))
def readP (s : ByteArray) (bias : Int) : Int × Int := readL bias s.data.toList 0 0 1
theorem low8 {c : UInt8} (h : 65 ≤ c.toNat ∧ c.toNat ≤ 90) : (((c + 32 : UInt8)).toNat : Int) = (c.toNat : Int) + 32 := by
  rw [UInt8.toNat_add]
  have : (32 : UInt8).toNat = 32 := rfl
  omega
set_option maxRecDepth 100000 in
theorem read_spec (s : ByteArray) (bias : Int) (hs : s.size ≤ 65536) (hb : 0 ≤ bias ∧ bias ≤ 1000) (w0 : World) (m0 : List Res) : PureC Try.prog 40 [.string s, .int .i64 bias] w0 m0 (.tuple #[.int .i64 (readP s bias).1, .int .i64 (readP s bias).2]) := by
  refine Ct.of Try.func40 rfl (by kernel_rfl) rfl ?_
  (refine c_sq fun k7 h7 => c_rg <| r_as rfl rfl <| r_as rfl rfl <| r_nx h7 <| c_sc rfl <| c_sq fun k9 h9 => c_rg <| r_as rfl rfl <| r_as rfl rfl <| r_nx h9 <| c_sq fun k11 h11 => c_lb <| WE.then_n h11 <| c_sq fun k13 h13 => c_sq fun k15 h15 => c_rg <| r_as rfl rfl <| r_nx h15 <| c_bl ?_; rotate_left)
  refine WC.loop (α := Nat × Int × Int) (fun x => [(0, .string s), (1, .int .i64 bias), (8, .int .i64 x.1), (6, .int .i64 x.2.1), (7, .int .i64 x.2.2)]) (fun _ => [])
    (fun x => x.1 ≤ s.size ∧ readL bias (s.data.toList.drop x.1) x.1 x.2.1 x.2.2 = readP s bias ∧ (0 ≤ x.2.1 ∧ x.2.1 ≤ 1099511627776) ∧ (1 ≤ x.2.2 ∧ x.2.2 ≤ 1099511627776)) (fun x => s.size - x.1) (0, 0, 1) ⟨Nat.zero_le _, rfl, by dsimp only; omega, by dsimp only; omega⟩ ⟨rfl, rfl, rfl, rfl, rfl, trivial⟩ Mem.keep ?_
  rintro ⟨a, i, w⟩ ⟨ha, e, h1, h2⟩
  dsimp only at ha e h1 h2 ⊢
  by_cases hlt : a < s.size
  · have hlt' : a < s.data.toList.length := by simpa using hlt
    have hd : s.data.toList.drop a = s.data.toList.getD a 0 :: s.data.toList.drop (a + 1) := by
      rw [List.drop_eq_getElem_cons hlt', List.getD_eq_getElem?_getD, List.getElem?_eq_getElem hlt']
      rfl
    rw [hd, readL] at e
    generalize hc : s.data.toList.getD a 0 = c at e
    have hc256 := c.toNat_lt
    have ht := thrP_bd (((a : Int) + 1) * 36) bias
    obtain ⟨c', hc'⟩ : ∃ c' : UInt8, c' = lowB c := ⟨_, rfl⟩
    rw [← hc'] at e
    have hv := valD_bd c'
    have m1 : valD c' * w ≤ 35 * w := Int.mul_le_mul_of_nonneg_right hv.2 (by omega)
    have m2 : -1 * w ≤ valD c' * w := Int.mul_le_mul_of_nonneg_right hv.1 (by omega)
    have m3 : w * (36 - thrP (((a : Int) + 1) * 36) bias) ≤ w * 35 := Int.mul_le_mul_of_nonneg_left (by omega) (by omega)
    have m4 : w * 10 ≤ w * (36 - thrP (((a : Int) + 1) * 36) bias) := Int.mul_le_mul_of_nonneg_left (by omega) (by omega)
    (refine c_sq fun k42 h42 => c_sq fun k44 h44 => c_rg <| r_mv rfl rfl <| r_mv rfl rfl <| r_lS Try.underlying9 rfl rfl <| r_ltT rfl rfl rfl (by omega) <| r_nx h44 <| c_cT rfl <| c_sk <| WE.then_n h42 <| c_sq fun k46 h46 => c_bl <| c_sq fun k48 h48 => c_rg <| r_mv rfl rfl <| r_mv rfl rfl ?_; rotate_left)
    refine r_iS (v := c) Try.underlying9 rfl rfl rfl (by omega) (by rw [← hc]; exact byte_at s hlt) ?_
    (refine r_as rfl rfl <| r_nx h48 ?_)
    refine WC.cut (α := Unit) (fun _ => [(0, .string s), (1, .int .i64 bias), (8, .int .i64 a), (6, .int .i64 i), (7, .int .i64 w), (9, .int .u8 c'.toNat)]) (fun _ => []) (fun _ => True) ?_ ?_
    · by_cases u1 : 65 ≤ (c.toNat : Int)
      · by_cases u2 : (c.toNat : Int) ≤ 90
        · have hu : (c'.toNat : Int) = (c.toNat : Int) + 32 := by rw [hc', lowB, if_pos (by omega), low8 (by omega)]
          (refine c_sq fun k53 h53 => c_rg <| r_mv rfl rfl <| r_geT rfl rfl rfl (by omega) <| r_mv rfl rfl <| r_mv rfl rfl <| r_leT rfl rfl rfl (by omega) <| r_pT rfl rfl rfl <| r_nx h53 <| c_cT rfl <| c_rg <| r_mv rfl rfl ?_; rotate_left)
          refine r_ad rfl rfl rfl (w8 (by omega)) ?_
          rw [← hu]
          (refine r_as rfl rfl <| r_nl ?_; rotate_left)
          exact WE.met () trivial ⟨rfl, rfl, rfl, rfl, rfl, rfl, trivial⟩ Mem.keep
        · have hu : c' = c := by rw [hc', lowB, if_neg (by omega)]
          rw [hu]
          (refine c_sq fun k53 h53 => c_rg <| r_mv rfl rfl <| r_geT rfl rfl rfl (by omega) <| r_mv rfl rfl <| r_mv rfl rfl <| r_leF rfl rfl rfl (by omega) <| r_pT rfl rfl rfl <| r_nx h53 <| c_cF rfl <| c_sk ?_; rotate_left)
          exact WE.met () trivial ⟨rfl, rfl, rfl, rfl, rfl, rfl, trivial⟩ Mem.keep
      · have hu : c' = c := by rw [hc', lowB, if_neg (by omega)]
        rw [hu]
        (refine c_sq fun k52 h52 => c_rg <| r_mv rfl rfl <| r_geF rfl rfl rfl (by omega) <| r_mv rfl rfl <| r_sk rfl rfl <| r_sk rfl rfl <| r_pF rfl rfl rfl <| r_nx h52 <| c_cF rfl <| c_sk ?_; rotate_left)
        exact WE.met () trivial ⟨rfl, rfl, rfl, rfl, rfl, rfl, trivial⟩ Mem.keep
    · rintro _ _
      (refine c_sq fun k52 h52 => c_rg <| r_mv rfl rfl ?_; rotate_left)
      refine WX.pure rfl rfl (idx_spec digitsB c' _ _) rfl rfl ?_
      rw [show Go.Lib.indexByte digitsB.data.toList c' = valD c' from rfl]
      by_cases v1 : valD c' < 0
      · rw [if_pos (.inl v1)] at e
        (refine r_as rfl rfl <| r_nx h52 <| c_sq fun k56 h56 => c_rg <| r_mv rfl rfl <| r_mv rfl rfl <| r_mv rfl rfl <| r_mu rfl rfl rfl (wmul64 (by omega)) <| r_ad rfl rfl rfl (wadd64 (by omega)) <| r_as rfl rfl <| r_nx h56 <| c_sq fun k58 h58 => c_sq fun k60 h60 => c_rg <| r_mv rfl rfl <| r_ltT rfl rfl rfl (by omega) <| r_mv rfl rfl <| r_sk rfl rfl <| r_sk rfl rfl <| r_pT rfl rfl rfl <| r_nx h60 <| c_cT rfl <| c_ex <| WE.then_x <| WE.blk_y rfl <| WE.then_x <| WE.then_x <| WE.blk_x <| WE.then_n h13 <| c_sq fun k62 h62 => c_rg <| r_as rfl rfl <| r_as rfl rfl <| r_nx h62 <| c_rt <| WE.sc_r ?_; rotate_left)
        exact WE.ret2 () rfl rfl rfl rfl (by rw [← e]) trivial Mem.drop
      · by_cases v2 : 1099511627776 < i + valD c' * w
        · rw [if_pos (.inr v2)] at e
          (refine r_as rfl rfl <| r_nx h52 <| c_sq fun k57 h57 => c_rg <| r_mv rfl rfl <| r_mv rfl rfl <| r_mv rfl rfl <| r_mu rfl rfl rfl (wmul64 (by omega)) <| r_ad rfl rfl rfl (wadd64 (by omega)) <| r_as rfl rfl <| r_nx h57 <| c_sq fun k59 h59 => c_sq fun k61 h61 => c_rg <| r_mv rfl rfl <| r_ltF rfl rfl rfl (by omega) <| r_mv rfl rfl <| r_mv rfl rfl <| r_gtT rfl rfl rfl (by omega) <| r_pF rfl rfl rfl <| r_nx h61 <| c_cT rfl <| c_ex <| WE.then_x <| WE.blk_y rfl <| WE.then_x <| WE.then_x <| WE.blk_x <| WE.then_n h13 <| c_sq fun k63 h63 => c_rg <| r_as rfl rfl <| r_as rfl rfl <| r_nx h63 <| c_rt <| WE.sc_r ?_; rotate_left)
          exact WE.ret2 () rfl rfl rfl rfl (by rw [← e]) trivial Mem.drop
        · rw [if_neg (by omega)] at e
          (refine r_as rfl rfl <| r_nx h52 <| c_sq fun k57 h57 => c_rg <| r_mv rfl rfl <| r_mv rfl rfl <| r_mv rfl rfl <| r_mu rfl rfl rfl (wmul64 (by omega)) <| r_ad rfl rfl rfl (wadd64 (by omega)) <| r_as rfl rfl <| r_nx h57 <| c_sq fun k59 h59 => c_sq fun k61 h61 => c_rg <| r_mv rfl rfl <| r_ltF rfl rfl rfl (by omega) <| r_mv rfl rfl <| r_mv rfl rfl <| r_gtF rfl rfl rfl (by omega) <| r_pF rfl rfl rfl <| r_nx h61 <| c_cF rfl <| c_sk <| WE.then_n h59 <| c_sq fun k63 h63 => c_rg <| r_mv rfl rfl <| r_ad rfl rfl rfl (wadd64 (by omega)) <| r_mu rfl rfl rfl (wmul64 (by omega)) <| r_mv rfl rfl ?_; rotate_left)
          refine WX.pure rfl rfl (threshold_spec (((a : Int) + 1) * 36) bias (by omega) _ _) rfl rfl ?_
          by_cases v3 : valD c' < thrP (((a : Int) + 1) * 36) bias
          · rw [if_pos v3] at e
            (refine r_as rfl rfl <| r_nx h63 <| c_sq fun k67 h67 => c_sq fun k69 h69 => c_rg <| r_mv rfl rfl <| r_mv rfl rfl <| r_ltT rfl rfl rfl (by omega) <| r_nx h69 <| c_cT rfl <| c_sq fun k71 h71 => c_rg <| r_mv rfl rfl <| r_mv rfl rfl <| r_ad rfl rfl rfl (wadd64 (by omega)) <| r_as rfl rfl <| r_as rfl rfl <| r_nx h71 <| c_rt <| WE.then_r <| WE.blk_r <| WE.then_r <| WE.then_r <| WE.blk_r <| WE.then_r <| WE.sc_r ?_; rotate_left)
            exact WE.ret2 () rfl rfl rfl rfl (by rw [← e]) trivial Mem.drop
          · rw [if_neg v3] at e
            have m5 : 0 ≤ valD c' * w := Int.mul_nonneg (by omega) (by omega)
            by_cases v4 : 1099511627776 < w * (36 - thrP (((a : Int) + 1) * 36) bias)
            · rw [if_pos v4] at e
              (refine r_as rfl rfl <| r_nx h63 <| c_sq fun k70 h70 => c_sq fun k72 h72 => c_rg <| r_mv rfl rfl <| r_mv rfl rfl <| r_ltF rfl rfl rfl (by omega) <| r_nx h72 <| c_cF rfl <| c_sk <| WE.then_n h70 <| c_sq fun k74 h74 => c_rg <| r_mv rfl rfl <| r_mv rfl rfl <| r_su rfl rfl rfl (wsub64 (by omega)) <| r_mu rfl rfl rfl (wmul64 (by omega)) <| r_as rfl rfl <| r_nx h74 <| c_sq fun k76 h76 => c_rg <| r_mv rfl rfl <| r_gtT rfl rfl rfl (by omega) <| r_nx h76 <| c_cT rfl <| c_ex <| WE.blk_y rfl <| WE.then_x <| WE.then_x <| WE.blk_x <| WE.then_n h13 <| c_sq fun k78 h78 => c_rg <| r_as rfl rfl <| r_as rfl rfl <| r_nx h78 <| c_rt <| WE.sc_r ?_; rotate_left)
              exact WE.ret2 () rfl rfl rfl rfl (by rw [← e]) trivial Mem.drop
            · rw [if_neg v4] at e
              (refine r_as rfl rfl <| r_nx h63 <| c_sq fun k70 h70 => c_sq fun k72 h72 => c_rg <| r_mv rfl rfl <| r_mv rfl rfl <| r_ltF rfl rfl rfl (by omega) <| r_nx h72 <| c_cF rfl <| c_sk <| WE.then_n h70 <| c_sq fun k74 h74 => c_rg <| r_mv rfl rfl <| r_mv rfl rfl <| r_su rfl rfl rfl (wsub64 (by omega)) <| r_mu rfl rfl rfl (wmul64 (by omega)) <| r_as rfl rfl <| r_nx h74 <| c_sq fun k76 h76 => c_rg <| r_mv rfl rfl <| r_gtF rfl rfl rfl (by omega) <| r_nx h76 <| c_cF rfl <| c_sk <| WE.blk_n <| WE.then_n h46 <| c_rg <| r_mv rfl rfl <| r_ad rfl rfl rfl (wadd64 (by omega)) <| r_as rfl rfl <| r_nl ?_; rotate_left)
              exact WE.back (a + 1, i + valD c' * w, w * (36 - thrP (((a : Int) + 1) * 36) bias)) ⟨by dsimp only; omega, e, by dsimp only; omega, by dsimp only; omega⟩ (by dsimp only; omega) ⟨rfl, rfl, rfl, rfl, rfl, trivial⟩ Mem.keep
  · (refine c_sq fun k25 h25 => c_sq fun k27 h27 => c_rg <| r_mv rfl rfl <| r_mv rfl rfl <| r_lS Try.underlying9 rfl rfl <| r_ltF rfl rfl rfl (by omega) <| r_nx h27 <| c_cF rfl <| c_ex <| WE.then_x <| WE.then_x <| WE.blk_x <| WE.then_n h13 <| c_sq fun k29 h29 => c_rg <| r_as rfl rfl <| r_as rfl rfl <| r_nx h29 <| c_rt <| WE.sc_r ?_; rotate_left)
    have hsz : s.data.size ≤ a := by show s.size ≤ a; omega
    have e0 : s.data.toList.drop a = [] := List.drop_eq_nil_of_le (by simpa using hsz)
    rw [e0, readL] at e
    exact WE.ret2 () rfl rfl rfl rfl (by rw [← e]) trivial Mem.drop
end Go.Proofs.Ythnabbidlmihbaa
