/- The document's reading of a text, where all its bytes are plain: the walks. -/
import Derived.Test.YthnabbidlmihbaaDecode
import Derived.Test.YthnabbidlmihbaaCompose
set_option linter.unusedVariables false
namespace Go.Proofs.Ythnabbidlmihbaa
open Go.RowKit Go.Gp

set_option maxRecDepth 100000 in
theorem rmany1_spec (c : UInt8) (h : c.toNat < 128) (w0 : World) (m0 : List Res) : PureC Try.prog 14 [.int .u8 c.toNat] w0 m0 (.int .i64 1) := by
  refine Ct.of Try.func14 rfl (by kernel_rfl) rfl ?_
  (refine c_sq fun k5 h5 => c_rg <| r_as rfl rfl <| r_nx h5 <| c_sq fun k7 h7 => c_sq fun k9 h9 => c_rg <| r_mv rfl rfl <| r_ltT rfl rfl rfl (by omega) <| r_nx h9 <| c_cT rfl <| c_sq fun k11 h11 => c_rg <| r_as rfl rfl <| r_nx h11 <| c_rt <| WE.then_r ?_; rotate_left)
  exact WE.ret1 () rfl rfl rfl trivial Mem.drop
set_option maxRecDepth 100000 in
theorem rbegin1_spec (s : ByteArray) (k : Nat) (c : UInt8) (hk : k < s.size) (hc : s.data[k]? = some c) (h : c.toNat < 128) (hs : s.size ≤ 1000000000) (w0 : World) (m0 : List Res) : PureC Try.prog 13 [.string s, .int .i64 k] w0 m0 (.int .i64 1) := by
  refine Ct.of Try.func13 rfl (by kernel_rfl) rfl ?_
  (refine c_sq fun k10 h10 => c_rg <| r_as rfl rfl <| r_nx h10 <| c_sq fun k12 h12 => c_rg <| r_mv rfl rfl <| r_mv rfl rfl ?_; rotate_left)
  refine r_iS (v := c) Try.underlying9 rfl rfl rfl (by omega) (by simpa using hc) ?_
  refine WX.pure rfl rfl (rmany1_spec c h _ _) rfl rfl ?_
  (refine r_as rfl rfl <| r_nx h12 <| c_sq fun k14 h14 => c_rg <| r_mv rfl rfl <| r_mn rfl rfl rfl <| r_as rfl rfl <| r_nx h14 <| c_sq fun k16 h16 => c_bl ?_; rotate_left)
  refine WC.loop (α := Unit) (fun _ => [(0, .string s), (1, .int .i64 k), (5, .int .i64 1), (6, .int .i64 1)]) (fun _ => []) (fun _ => True) (fun _ => 0) () trivial ⟨rfl, rfl, rfl, rfl, trivial⟩ Mem.keep ?_
  rintro _ _
  (refine c_sq fun k20 h20 => c_sq fun k22 h22 => c_dr rfl (by kernel_rfl) (by kernel_rfl) <| r_mv rfl rfl <| r_gtT rfl rfl rfl (by omega) <| r_mv rfl rfl <| r_mv rfl rfl <| r_mv rfl rfl <| r_ltF rfl rfl rfl (by omega) <| r_pT rfl rfl rfl <| r_mv rfl rfl <| r_sk rfl rfl <| r_sk rfl rfl <| r_sk rfl rfl <| r_sk rfl rfl <| r_sk rfl rfl <| r_sk rfl rfl <| r_pF rfl rfl rfl <| r_mv rfl rfl <| r_sk rfl rfl <| r_sk rfl rfl <| r_sk rfl rfl <| r_sk rfl rfl <| r_sk rfl rfl <| r_sk rfl rfl <| r_sk rfl rfl <| r_sk rfl rfl <| r_sk rfl rfl <| r_sk rfl rfl <| r_pF rfl rfl rfl <| r_nx h22 <| c_cF rfl <| c_ex <| WE.then_x <| WE.then_x <| WE.blk_x <| WE.then_n h16 <| c_sq fun k24 h24 => c_rg <| r_mv rfl rfl <| r_as rfl rfl <| r_nx h24 <| c_rt ?_; rotate_left)
  exact WE.ret1 () rfl rfl rfl trivial Mem.drop
set_option maxRecDepth 100000 in
theorem rvalue1_spec (s : ByteArray) (c : UInt8) (h1 : s.size = 1) (hc : s.data[0]? = some c) (w0 : World) (m0 : List Res) : PureC Try.prog 15 [.string s] w0 m0 (.int .i32 c.toNat) := by
  have h256 := c.toNat_lt
  refine Ct.of Try.func15 rfl (by kernel_rfl) rfl ?_
  (refine c_sq fun k8 h8 => c_rg <| r_as rfl rfl <| r_nx h8 <| c_sq fun k10 h10 => c_sq fun k12 h12 => c_rg <| r_mv rfl rfl <| r_lS Try.underlying9 rfl rfl <| r_eqT rfl rfl rfl (by omega) <| r_nx h12 <| c_cT rfl <| c_sq fun k14 h14 => c_rg <| r_mv rfl rfl ?_; rotate_left)
  refine r_iS (v := c) Try.underlying9 rfl rfl rfl (by omega) hc ?_
  (refine r_cv rfl (cv_int (k' := .i32) rfl Try.underlying21 (w32 (by omega))) rfl <| r_as rfl rfl <| r_nx h14 <| c_rt <| WE.then_r ?_; rotate_left)
  exact WE.ret1 () rfl rfl rfl trivial Mem.drop
theorem asc_getD (s : ByteArray) {i : Nat} (h : i < s.size) : (asc s).getD i 0 = ((s.data.toList.getD i 0).toNat : Int) := by
  have h' : i < s.data.toList.length := by simpa using h
  unfold asc
  rw [List.getD_eq_getElem?_getD, List.getElem?_map, List.getElem?_eq_getElem h', List.getD_eq_getElem?_getD, List.getElem?_eq_getElem h']
  rfl
set_option maxRecDepth 100000 in
theorem rdecA_spec (s : ByteArray) (hs : s.size ≤ 1000000) (ha : ∀ b ∈ s.data.toList, b.toNat < 128) (w0 : World) (m0 : List Res) :
    Ct (α := Option Addr × Nat) Try.prog 6 [.string s] w0 [] m0 (fun _ => True) (fun p => SlR p (asc s)) (fun p => [OwnR p (asc s)]) := by
  have hl := asc_length s
  refine Ct.of Try.func6 rfl (by kernel_rfl) rfl ?_
  (refine c_sq fun k7 h7 => c_rg <| r_as rfl rfl <| r_nx h7 <| c_sq fun k9 h9 => c_rg <| r_as rfl rfl <| r_nx h9 <| c_sq fun k11 h11 => c_rg <| r_as rfl rfl <| r_nx h11 <| c_sq fun k13 h13 => c_bl ?_; rotate_left)
  refine WC.loop (α := Nat × (Option Addr × Nat)) (fun x => [(0, .string s), (4, .int .i64 x.1), (3, SlR x.2 ((asc s).take x.1))]) (fun x => [OwnR x.2 ((asc s).take x.1)]) (fun x => x.1 ≤ s.size) (fun x => s.size - x.1) (0, (none, 0)) (by simp) ⟨rfl, rfl, rfl, trivial⟩ (Mem.nilOwn _ _) ?_
  rintro ⟨i, p⟩ hi
  dsimp only at hi ⊢
  have hti : ((asc s).take i).length ≤ i := List.length_take_le _ _
  by_cases hlt : i < s.size
  · have hb := byte_at s hlt
    have hm : s.data.toList.getD i 0 ∈ s.data.toList := by
      have h' : i < s.data.toList.length := by simpa using hlt
      rw [List.getD_eq_getElem?_getD, List.getElem?_eq_getElem h']
      exact List.getElem_mem _
    have h128 := ha _ hm
    have hn := take_next (l := asc s) (i := i) (by omega)
    rw [asc_getD s hlt] at hn
    generalize s.data.toList.getD i 0 = c at hb hm h128 hn
    have hx1 : (s.extract i (i + 1)).size = 1 := by rw [ByteArray.size_extract]; omega
    have hx2 : (s.extract i (i + 1)).data[0]? = some c := by
      rw [ByteArray.data_extract, Array.getElem?_extract]
      simp only [Nat.add_zero]
      rw [if_pos (by have : s.data.size = s.size := rfl; omega)]
      exact hb
    (refine c_sq fun k27 h27 => c_sq fun k29 h29 => c_rg <| r_mv rfl rfl <| r_mv rfl rfl <| r_lS Try.underlying9 rfl rfl <| r_ltT rfl rfl rfl (by omega) <| r_nx h29 <| c_cT rfl <| c_sk <| WE.then_n h27 <| c_bl <| c_sq fun k31 h31 => c_rg <| r_mv rfl rfl <| r_mv rfl rfl ?_; rotate_left)
    refine WX.pure rfl rfl (rbegin1_spec s i c hlt hb h128 (by omega) _ _) rfl rfl ?_
    (refine r_as rfl rfl <| r_nx h31 <| c_sq fun k33 h33 => c_sq fun k35 h35 => c_rg <| r_mv rfl rfl <| r_gtT rfl rfl rfl (by omega) <| r_mv rfl rfl <| r_mv rfl rfl <| r_mv rfl rfl <| r_mv rfl rfl ?_; rotate_left)
    refine r_iS (v := c) Try.underlying9 rfl rfl rfl (by omega) (by simpa using hb) ?_
    refine WX.pure rfl rfl (rmany1_spec c h128 _ _) rfl rfl ?_
    (refine r_eqT rfl rfl rfl (by omega) <| r_pT rfl rfl rfl <| r_nx h35 <| c_cT rfl <| c_rg <| r_mv rfl rfl <| r_mv rfl rfl <| r_mv rfl rfl <| r_mv rfl rfl <| r_mv rfl rfl <| r_ad rfl rfl rfl (wadd64 (by omega)) ?_; rotate_left)
    refine r_sS Try.underlying9 rfl rfl rfl (by omega) (by omega) (by omega) rfl ?_
    rw [show s.extract ((i : Int)).toNat ((i : Int) + 1).toNat = s.extract i (i + 1) by congr 1]
    refine WX.pure rfl rfl (rvalue1_spec (s.extract i (i + 1)) c hx1 hx2 _ _) rfl rfl ?_
    (refine r_bo Try.underlying22 rfl (fun _ => by kernel_rfl) rfl rfl rfl (fun _ => ?_); rotate_left)
    refine r_am (xs := (asc s).take i) (ys := [(c.toNat : Int)]) 1 (z := .int .i32 0) (by_ := 4) (f := (.int .i32 ·)) Try.underlying22 (by kernel_rfl) rfl rfl rfl rfl (Rd.own 0 rfl) rfl (fun _ => rfl) (by omega) rfl (fun p2 _ => ?_)
    rw [← hn]
    (refine r_as rfl rfl <| r_nx h33 <| c_rg <| r_mv rfl rfl <| r_mv rfl rfl <| r_mx rfl rfl rfl <| r_ad rfl rfl rfl (wadd64 (by omega)) <| r_as rfl rfl <| r_nl <| WE.blk_n ?_; rotate_left)
    exact WE.back (i + 1, p2) (by dsimp only; omega) (by dsimp only; omega) ⟨rfl, rfl, rfl, trivial⟩ (Mem.pick [1] (by decide) rfl)
  · have e : (asc s).take i = asc s := List.take_of_length_le (by omega)
    rw [e]
    (refine c_sq fun k21 h21 => c_sq fun k23 h23 => c_rg <| r_mv rfl rfl <| r_mv rfl rfl <| r_lS Try.underlying9 rfl rfl <| r_ltF rfl rfl rfl (by omega) <| r_nx h23 <| c_cF rfl <| c_ex <| WE.then_x <| WE.then_x <| WE.blk_x <| WE.then_n h13 <| c_sq fun k25 h25 => c_rg <| r_mv rfl rfl <| r_as rfl rfl <| r_nx h25 <| c_rt ?_; rotate_left)
    exact WE.ret1 p rfl rfl rfl trivial Mem.keep
end Go.Proofs.Ythnabbidlmihbaa
