/- errors.As and fail.Code: the walks. -/
import Derived.Test.YthnabbidlmihbaaDoorAs
namespace Go.Proofs.YthnabbidlmihbaaDoor
open Go.RowKit Go.Gp Go.Extern.Stop Go.Stop Go.Extern

set_option maxRecDepth 100000 in
theorem as_loop (L : List (Nat × ByteArray)) (n z : Int) (a bn : Nat) (w0 : World) (m0 : List Res) (hL : EcR w0 m0 L n) (hA : Rd w0 m0 (some ⟨a, 0, none⟩) [.pointer (some ⟨bn, 0, none⟩)]) :
    Ct (α := Unit) Tryd.prog 41 [ecv L n, .iface PE (.pointer (some ⟨bn, 0, none⟩)), vPE a, .iface 70 (.agg #[hdl EE])] w0 [.blk bn [.int .i64 z] EE] m0 (fun _ => True) (fun _ => .bool true) (fun _ => [.blk bn [.int .i64 n] EE]) := by
  refine Ct.of Tryd.func41 rfl (by kernel_rfl) rfl ?_
  (refine c_sq fun k10 h10 => c_rg <| r_bx rfl rfl rfl (fun _ => ?_); refine r_as rfl rfl <| r_nx h10 <| c_bl ?_; rotate_left)
  rename_i bx
  refine WC.loop (α := List (Nat × ByteArray)) (fun r => [(0, ecv r n), (1, .iface PE (.pointer (some ⟨bn, 0, none⟩))), (3, .iface 70 (.agg #[hdl EE])), (6, .pointer (some ⟨bx, 0, none⟩)), (8, .bool false)])
    (fun _ => [.blk bx [hdl PE, .pointer (some ⟨a, 0, none⟩), .int .u64 150] 83, .blk bn [.int .i64 z] EE]) (fun r => EcR w0 m0 r n) (fun r => r.length) L hL ⟨rfl, rfl, rfl, rfl, rfl, trivial⟩ Mem.keep ?_
  rintro r hr
  cases r with
  | nil =>
    show WC _ _ _ [(0, .iface 31 (.int .i64 n)), (1, .iface PE (.pointer (some ⟨bn, 0, none⟩))), (3, .iface 70 (.agg #[hdl EE])), (6, .pointer (some ⟨bx, 0, none⟩)), (8, .bool false)] _
    (refine c_bl <| c_sq fun k14 h14 => c_sq fun k16 h16 => c_rg <| r_mv rfl rfl ?_; rotate_left)
    refine r_xv (v := .iface 70 (.agg #[hdl EE])) rfl rfl (fun _ => by kernel_rfl) rfl ?_
    (refine r_mv rfl rfl ?_; rotate_left)
    refine r_iv (v := .bool true) rfl rfl (fun _ => by kernel_rfl) rfl ?_
    (refine r_nx h16 <| c_cT rfl <| c_sq fun k18 h18 => c_rg <| r_la 0 Tryd.underlying83 rfl (by kernel_rfl) rfl rfl rfl ?_; rotate_left)
    refine r_xm (v := vEa bn) rfl rfl (fun w hw => x_elem a bn w ((hA.app _).get hw rfl)) rfl ?_
    (refine r_mv rfl rfl ?_; rotate_left)
    refine r_xa (val := vE) rfl rfl (fun w => x_valueOfE n w) rfl (fun bq => ?_)
    refine r_xs 2 (bb := bn) (o := 0) (u := .int .i64 n) (v := .tuple #[]) rfl rfl rfl Nat.zero_lt_one rfl (fun w hw => x_set bn bq n (.int .i64 z) w (hw.cellAt 0 rfl Nat.zero_lt_one).1 (hw.cellAt 2 rfl Nat.zero_lt_one).1 (hw.cellAt 2 rfl Nat.zero_lt_one).2) rfl ?_
    (refine r_nx h18 <| c_sq fun k21 h21 => c_rg <| r_as rfl rfl <| r_nx h21 <| c_rt <| WE.then_r <| WE.blk_r <| WE.then_r <| WE.blk_r ?_; rotate_left)
    exact WE.ret1 () rfl rfl rfl trivial (Mem.pick [2] (by decide) rfl)
  | cons p r =>
    obtain ⟨b, s⟩ := p
    obtain ⟨hr1, hr2⟩ := hr
    obtain ⟨T, v, he⟩ := ecv_form r n
    show WC _ _ _ [(0, .iface 57 (.pointer (some ⟨b, 0, none⟩))), (1, .iface PE (.pointer (some ⟨bn, 0, none⟩))), (3, .iface 70 (.agg #[hdl EE])), (6, .pointer (some ⟨bx, 0, none⟩)), (8, .bool false)] _
    (refine c_bl <| c_sq fun k24 h24 => c_sq fun k26 h26 => c_rg <| r_mv rfl rfl ?_; rotate_left)
    refine r_xv (v := .iface 70 (.agg #[hdl 57])) rfl rfl (fun _ => by kernel_rfl) rfl ?_
    (refine r_mv rfl rfl ?_; rotate_left)
    refine r_iv (v := .bool false) rfl rfl (fun _ => by kernel_rfl) rfl ?_
    (refine r_nx h26 <| c_cF rfl <| c_sk <| WE.then_n h24 <| c_sq fun k28 h28 => c_sq fun k30 h30 => c_rg <| r_mv rfl rfl ?_; rotate_left)
    refine r_ta rfl (noAsF _ _) rfl ?_
    (refine r_mv rfl rfl <| r_ex rfl rfl rfl <| r_ex rfl rfl rfl <| r_as rfl rfl <| r_as rfl rfl <| r_nx h30 <| c_sq fun k32 h32 => c_rg <| r_mv rfl rfl <| r_mv rfl rfl <| r_sk rfl rfl <| r_sk rfl rfl <| r_sk rfl rfl <| r_pF rfl rfl rfl <| r_nx h32 <| c_cF rfl <| c_sk <| WE.then_n h28 <| c_sq fun k34 h34 => c_rg <| r_mv rfl rfl <| r_nx h34 <| c_bl <| c_sq fun k36 h36 => c_rg ?_; rotate_left)
    refine r_ta rfl (hasUnF _ _) rfl ?_
    (refine r_ex rfl rfl rfl <| r_ex rfl rfl rfl <| r_nx h36 <| c_cT rfl <| c_sq fun k38 h38 => c_rg <| r_as rfl rfl <| r_nx h38 <| c_sq fun k40 h40 => c_rg <| r_mv rfl rfl ?_; rotate_left)
    refine WX.invoke (m1 := []) (m2 := _) rfl rfl (fun _ => by kernel_rfl) rfl (unwrap_spec b s _ _ _ (Rd.app hr1 _)) rfl rfl (fun _ _ => ?_)
    rw [he]
    (refine r_as rfl rfl <| r_nx h40 <| c_sq fun k44 h44 => c_rg <| r_mv rfl rfl <| r_bk (.bool false) rfl rfl (fun _ => by kernel_rfl) rfl <| r_nx h44 <| c_cF rfl <| c_sk <| WE.blk_n <| WE.blk_n ?_; rotate_left)
    exact WE.back r hr2 (by simp) ⟨by rw [he]; rfl, rfl, rfl, rfl, rfl, trivial⟩ Mem.keep

set_option maxRecDepth 100000 in
theorem as_spec (L : List (Nat × ByteArray)) (n z : Int) (bn : Nat) (w0 : World) (m0 : List Res) (hL : EcR w0 m0 L n) (hE : Rd w0 m0 (some ⟨0, 0, none⟩) [errT]) :
    Ct (α := Unit) Tryd.prog 19 [ecv L n, .iface PE (.pointer (some ⟨bn, 0, none⟩))] w0 [.blk bn [.int .i64 z] EE] m0 (fun _ => True) (fun _ => .bool true) (fun _ => [.blk bn [.int .i64 n] EE]) := by
  refine Ct.of Tryd.func19 rfl (by kernel_rfl) rfl ?_
  obtain ⟨T, v, he⟩ := ecv_form L n
  have hi := fun a m1 z => as_loop L n z a bn w0 (m1 ++ m0) (hL.app _)
  rw [he] at hi ⊢
  (refine c_sq fun k14 h14 => c_rg <| r_as rfl rfl <| r_nx h14 <| c_sq fun k16 h16 => c_sq fun k18 h18 => c_rg <| r_mv rfl rfl <| r_bk (.bool false) rfl rfl (fun _ => by kernel_rfl) rfl <| r_nx h18 <| c_cF rfl <| c_sk <| WE.then_n h16 <| c_sq fun k20 h20 => c_sq fun k22 h22 => c_rg <| r_mv rfl rfl <| r_bk (.bool false) rfl rfl (fun _ => by kernel_rfl) rfl <| r_nx h22 <| c_cF rfl <| c_sk <| WE.then_n h20 <| c_sq fun k24 h24 => c_rg <| r_mv rfl rfl ?_; rotate_left)
  refine r_xa (val := vPE) rfl rfl (fun w => x_valueOfP _ w) rfl (fun a => ?_)
  (rotate_left)
  refine r_al (z := .agg #[.pointer none, .pointer none, .int .u64 0]) (cs := [.pointer none, .pointer none, .int .u64 0]) (fun _ => by kernel_rfl) rfl rfl (fun b => ?_)
  (refine r_sa 0 (by kernel_rfl) rfl rfl rfl rfl rfl rfl rfl <| r_nx h24 <| c_sq fun k28 h28 => c_rg <| r_la 0 Tryd.underlying83 rfl (by kernel_rfl) rfl rfl rfl ?_; rotate_left)
  refine r_xv (v := .iface 70 (.agg #[hdl PE])) rfl rfl (fun _ => by kernel_rfl) rfl ?_
  (refine r_as rfl rfl <| r_nx h28 <| c_sq fun k30 h30 => c_sq fun k32 h32 => c_rg <| r_mv rfl rfl ?_; rotate_left)
  refine r_iv (v := .int .u8 22) rfl rfl (fun _ => by kernel_rfl) rfl ?_
  (refine r_neF rfl rfl rfl (by omega) <| r_mv rfl rfl <| r_la 0 Tryd.underlying83 rfl (by kernel_rfl) rfl rfl rfl ?_; rotate_left)
  refine r_xm (v := .bool false) rfl rfl (fun w hw => x_isNil a bn w (hw.cellAt 1 rfl Nat.zero_lt_one).1) rfl ?_
  (refine r_pF rfl rfl rfl <| r_nx h32 <| c_cF rfl <| c_sk <| WE.then_n h30 <| c_sq fun k34 h34 => c_rg <| r_mv rfl rfl ?_; rotate_left)
  refine r_iv (v := .iface 70 (.agg #[hdl EE])) rfl rfl (fun _ => by kernel_rfl) rfl ?_
  (refine r_as rfl rfl <| r_nx h34 <| c_sq fun k36 h36 => c_sq fun k38 h38 => c_rg <| r_mv rfl rfl ?_; rotate_left)
  refine r_iv (v := .int .u8 2) rfl rfl (fun _ => by kernel_rfl) rfl ?_
  (refine r_neT rfl rfl rfl (by omega) <| r_mv rfl rfl <| r_mv rfl rfl ?_; rotate_left)
  refine r_lr (i := 0) (A := some ⟨0, 0, none⟩) Tryd.underlying47 rfl rfl rfl (hE.app _) rfl ?_
  (rotate_left)
  refine r_iv (v := .bool true) rfl rfl (fun _ => by kernel_rfl) rfl ?_
  (refine r_no rfl rfl rfl <| r_pT rfl rfl rfl <| r_nx h38 <| c_cF rfl <| c_sk <| WE.then_n h36 <| c_sq fun k40 h40 => c_rg <| r_mv rfl rfl <| r_mv rfl rfl <| r_la 0 Tryd.underlying83 rfl (by kernel_rfl) rfl rfl rfl <| r_mv rfl rfl ?_; rotate_left)
  refine WX.mem (m' := [.blk bn [.int .i64 z] EE, .blk a [.pointer (some ⟨bn, 0, none⟩)] PE]) (Mem.pick [2, 1] (by decide) rfl) ?_
  refine WX.call (m1 := [.blk bn [.int .i64 z] EE]) (m2 := [.blk a [.pointer (some ⟨bn, 0, none⟩)] PE]) rfl rfl rfl (hi a _ z (Rd.blk 0 rfl)) rfl rfl (fun _ _ => ?_)
  (refine r_as rfl rfl <| r_nx h40 <| c_rt ?_; rotate_left)
  exact WE.ret1 () rfl rfl rfl trivial (Mem.pick [0] (by decide) rfl)
set_option maxRecDepth 100000 in
theorem code_spec (L : List (Nat × ByteArray)) (n : Int) (w0 : World) (m0 : List Res) (hL : EcR w0 m0 L n) (hE : Rd w0 m0 (some ⟨0, 0, none⟩) [errT]) :
    PureC Tryd.prog 9 [ecv L n] w0 m0 (.int .i64 n) := by
  refine Ct.of Tryd.func9 rfl (by kernel_rfl) rfl ?_
  obtain ⟨T, v, he⟩ := ecv_form L n
  have hi := fun bn m1 z => as_spec L n z bn w0 (m1 ++ m0) (hL.app _) (hE.app _)
  rw [he] at hi ⊢
  (refine c_sq fun k12 h12 => c_rg <| r_as rfl rfl <| r_nx h12 <| c_sq fun k14 h14 => c_rg <| r_al (z := .int .i64 0) (cs := [.int .i64 0]) (fun _ => by kernel_rfl) rfl rfl (fun _ => ?_); refine r_nx h14 <| c_sq fun k17 h17 => c_bl <| c_sq fun k19 h19 => c_rg <| r_mv rfl rfl <| r_bk (.bool false) rfl rfl (fun _ => by kernel_rfl) rfl <| r_as rfl rfl <| r_nx h19 <| c_cF rfl <| c_sq fun k21 h21 => c_rg <| r_mv rfl rfl <| r_mi rfl (fun _ => by kernel_rfl) rfl ?_; rotate_left)
  rename_i bn
  refine WX.call (m1 := [.blk bn [.int .i64 0] EE]) (m2 := []) rfl rfl rfl (hi bn _ 0) rfl rfl (fun _ _ => ?_)
  (refine r_as rfl rfl <| r_nx h21 <| c_cT rfl <| c_sq fun k25 h25 => c_rg <| r_lb 0 Tryd.underlying31 rfl rfl rfl rfl rfl <| r_as rfl rfl <| r_nx h25 <| c_rt <| WE.blk_r <| WE.then_r ?_; rotate_left)
  exact WE.ret1 () rfl rfl rfl trivial Mem.drop
theorem code_nil (w0 : World) (m0 : List Res) : PureC Tryd.prog 9 [.nilIface] w0 m0 (.int .i64 0) := by
  refine Ct.of Tryd.func9 rfl (by kernel_rfl) rfl ?_
  (refine c_sq fun k3 h3 => c_rg <| r_as rfl rfl <| r_nx h3 <| c_sq fun k5 h5 => c_rg <| r_al (z := .int .i64 0) (cs := [.int .i64 0]) (fun _ => by kernel_rfl) rfl rfl (fun _ => ?_); refine r_nx h5 <| c_sq fun k8 h8 => c_bl <| c_sq fun k10 h10 => c_rg <| r_mv rfl rfl <| r_bk (.bool true) rfl rfl (fun _ => by kernel_rfl) rfl <| r_as rfl rfl <| r_nx h10 <| c_cT rfl <| c_sq fun k12 h12 => c_rg <| r_as rfl rfl <| r_nx h12 <| c_rt <| WE.blk_r <| WE.then_r ?_; rotate_left)
  exact WE.ret1 () rfl rfl rfl trivial Mem.drop
end Go.Proofs.YthnabbidlmihbaaDoor
