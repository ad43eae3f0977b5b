/- strings.Builder: the contracts of its methods, for a builder that the call has made. -/
import Derived.Test.YthnabbidlmihbaaOps2
import Derived.Test.YthnabbidlmihbaaHeld
import Derived.Test.YthnabbidlmihbaaRows
import Derived.Test.YthnabbidlmihbaaAppStr
import Derived.Test.YthnabbidlmihbaaMore
import Derived.Lib.Builder
import Derived.Lib.UnsafeStr
import Derived.Lib.MakeNoZero
namespace Go.Proofs.Ythnabbidlmihbaa
open Go.RowKit Go.Gp

/-- Bytes as cells. -/
abbrev bys (l : List UInt8) : List Value := l.map fun b => .int .u8 b.toNat
/-- What a builder's first field holds: nothing, or itself. -/
abbrev selfV (u : Bool) (g : Nat) : Value := bif u then .pointer (some ⟨g, 0, none⟩) else .pointer none
abbrev BB (u : Bool) (g : Nat) (p : Option Addr × Nat) (l : List UInt8) : Res := .blk g [selfV u g, .slice p.1 l.length p.2] 61
abbrev OwnB (p : Option Addr × Nat) (l : List UInt8) : Res := .own p.1 p.2 l.length (bys l) 5 1

theorem x_noEsc (a : Addr) (w : World) : (callFunc 62 #[.pointer (some a)]).run Try.prog w = .ok (.value (.pointer (some a))) w := by kernel_rfl
theorem infoB : ∃ j, Try.prog.info? 61 = some j ∧ j.size = 2 := by
  have h : (Try.prog.info? 61).map (·.size) = some 2 := by kernel_rfl
  cases hq : Try.prog.info? 61 with
  | none => rw [hq] at h; cases h
  | some j => exact ⟨j, rfl, by simpa [hq] using h⟩
set_option maxRecDepth 100000 in
theorem copyCheck_spec (u : Bool) (g : Nat) (s : Value) (w0 : World) (m0 : List Res) :
    Ct (α := Unit) Try.prog 52 [.pointer (some ⟨g, 0, none⟩)] w0 [.blk g [selfV u g, s] 61] m0 (fun _ => True) (fun _ => .tuple #[]) (fun _ => [.blk g [selfV true g, s] 61]) := by
  obtain ⟨jB, hj, hj2⟩ := infoB
  refine Ct.of Try.func52 rfl (by kernel_rfl) rfl ?_
  cases u
  · (refine c_sq fun k9 h9 => c_rg <| r_mv rfl rfl <| r_nc rfl rfl <| r_fa 0 rfl (fun _ => by kernel_rfl) rfl <| r_lb 0 Try.underlying58 rfl rfl rfl rfl rfl ?_; rotate_left)
    refine r_bk (.bool true) rfl rfl (fun _ => by kernel_rfl) rfl ?_
    (refine r_nx h9 <| c_cT rfl <| c_rg <| r_mv rfl rfl <| r_mv rfl rfl ?_; rotate_left)
    refine r_cm rfl (fun w hw => Go.Lib.run_to_unsafe w ⟨g, 0, none⟩ Try.underlying58 Try.underlying103 hj (by omega) (hw.shape 0 rfl) Nat.zero_lt_two) rfl ?_
    (rotate_left)
    refine r_xv rfl rfl (fun w => x_noEsc ⟨g, 0, none⟩ w) rfl ?_
    refine r_cm rfl (fun w hw => Go.Lib.run_from_unsafe w ⟨g, 0, none⟩ Try.underlying103 Try.underlying58 hj (hw.shape 0 rfl) (by kernel_rfl)) rfl ?_
    (refine r_nc rfl rfl <| r_fa 0 rfl (fun _ => by kernel_rfl) rfl <| r_st 0 (by kernel_rfl) rfl rfl rfl rfl rfl rfl rfl <| r_nl ?_; rotate_left)
    exact WE.end0 () rfl rfl rfl trivial Mem.keep
  · (refine c_sq fun k9 h9 => c_rg <| r_mv rfl rfl <| r_nc rfl rfl <| r_fa 0 rfl (fun _ => by kernel_rfl) rfl <| r_lb 0 Try.underlying58 rfl rfl rfl rfl rfl ?_; rotate_left)
    refine r_bk (.bool false) rfl rfl (fun _ => by kernel_rfl) rfl ?_
    (refine r_nx h9 <| c_cF rfl <| c_sq fun k11 h11 => c_rg <| r_mv rfl rfl <| r_nc rfl rfl <| r_fa 0 rfl (fun _ => by kernel_rfl) rfl <| r_lb 0 Try.underlying58 rfl rfl rfl rfl rfl <| r_mv rfl rfl ?_; rotate_left)
    refine r_bi (s := .bool false) rfl rfl (fun _ _ => rfl) (fun w _ => Go.Lib.run_neq_ptr_same w ⟨g, 0, none⟩ Try.underlying58 hj) rfl ?_
    (refine r_nx h11 <| c_cF rfl <| c_sk ?_; rotate_left)
    exact WE.end0 () rfl rfl rfl trivial Mem.keep

set_option maxRecDepth 100000 in
theorem writeByte_spec (u : Bool) (g : Nat) (p : Option Addr × Nat) (l : List UInt8) (c : UInt8) (hn : l.length ≤ 1000000000000) (w0 : World) (m0 : List Res) :
    Ct (α := Option Addr × Nat) Try.prog 47 [.pointer (some ⟨g, 0, none⟩), .int .u8 c.toNat] w0 [BB u g p l, OwnB p l] m0 (fun _ => True) (fun _ => .nilIface) (fun q => [BB true g q (l ++ [c]), OwnB q (l ++ [c])]) := by
  refine Ct.of Try.func47 rfl (by kernel_rfl) rfl ?_
  (refine c_sq fun k9 h9 => c_rg <| r_as rfl rfl <| r_nx h9 <| c_sq fun k11 h11 => c_rg <| r_mv rfl rfl ?_; rotate_left)
  refine WX.call (m1 := [BB u g p l]) (m2 := [OwnB p l]) rfl rfl rfl (copyCheck_spec u g _ _ _) rfl rfl (fun _ _ => ?_)
  (refine r_nx h11 <| c_sq fun k15 h15 => c_rg <| r_mv rfl rfl <| r_mv rfl rfl <| r_nc rfl rfl <| r_fa 1 rfl (fun _ => by kernel_rfl) rfl <| r_lb 0 Try.underlying59 rfl rfl rfl rfl rfl <| r_mv rfl rfl <| r_bo Try.underlying59 rfl (fun _ => by kernel_rfl) rfl rfl rfl (fun _ => ?_); rotate_left)
  refine r_am (ys := [c]) 2 (z := .int .u8 0) (by_ := 1) (f := fun b : UInt8 => .int .u8 b.toNat) Try.underlying59 (by kernel_rfl) rfl rfl rfl rfl (Rd.own 0 rfl) rfl (fun _ => rfl) (by omega) rfl (fun q _ => ?_)
  (refine r_nc rfl rfl <| r_fa 1 rfl (fun _ => by kernel_rfl) rfl <| r_st 1 (by kernel_rfl) rfl rfl rfl rfl rfl rfl rfl <| r_nx h15 <| c_sq fun k20 h20 => c_rg <| r_as rfl rfl <| r_nx h20 <| c_rt ?_; rotate_left)
  exact WE.ret1 q rfl rfl rfl trivial (Mem.pick [1, 2] (by decide) rfl)
set_option maxRecDepth 100000 in
theorem writeString_spec (u : Bool) (g : Nat) (p : Option Addr × Nat) (l : List UInt8) (s : ByteArray) (hn : l.length + s.size ≤ 1000000000000) (w0 : World) (m0 : List Res) :
    Ct (α := Option Addr × Nat) Try.prog 32 [.pointer (some ⟨g, 0, none⟩), .string s] w0 [BB u g p l, OwnB p l] m0 (fun _ => True) (fun _ => .tuple #[.int .i64 s.size, .nilIface]) (fun q => [BB true g q (l ++ s.data.toList), OwnB q (l ++ s.data.toList)]) := by
  refine Ct.of Try.func32 rfl (by kernel_rfl) rfl ?_
  (refine c_sq fun k9 h9 => c_rg <| r_as rfl rfl <| r_as rfl rfl <| r_nx h9 <| c_sq fun k11 h11 => c_rg <| r_mv rfl rfl ?_; rotate_left)
  refine WX.call (m1 := [BB u g p l]) (m2 := [OwnB p l]) rfl rfl rfl (copyCheck_spec u g _ _ _) rfl rfl (fun _ _ => ?_)
  (refine r_nx h11 <| c_sq fun k15 h15 => c_rg <| r_mv rfl rfl <| r_mv rfl rfl <| r_nc rfl rfl <| r_fa 1 rfl (fun _ => by kernel_rfl) rfl <| r_lb 0 Try.underlying59 rfl rfl rfl rfl rfl <| r_mv rfl rfl ?_; rotate_left)
  refine r_as2 1 Try.underlying59 Try.underlying9 (by kernel_rfl) rfl rfl rfl (by omega) rfl (fun q => ?_)
  (refine r_nc rfl rfl <| r_fa 1 rfl (fun _ => by kernel_rfl) rfl <| r_st 0 (by kernel_rfl) rfl rfl rfl rfl rfl rfl rfl <| r_nx h15 <| c_sq fun k18 h18 => c_rg <| r_mv rfl rfl <| r_lS Try.underlying9 rfl rfl <| r_as rfl rfl <| r_as rfl rfl <| r_nx h18 <| c_rt ?_; rotate_left)
  exact WE.ret2 q rfl rfl rfl rfl rfl trivial (Mem.pick [0, 1] (by decide) rfl)
set_option maxRecDepth 100000 in
theorem bLen_spec (u : Bool) (g : Nat) (p : Option Addr × Nat) (l : List UInt8) (w0 : World) (m0 : List Res) :
    Ct (α := Unit) Try.prog 46 [.pointer (some ⟨g, 0, none⟩)] w0 [BB u g p l] m0 (fun _ => True) (fun _ => .int .i64 l.length) (fun _ => [BB u g p l]) := by
  refine Ct.of Try.func46 rfl (by kernel_rfl) rfl ?_
  (refine c_sq fun k7 h7 => c_rg <| r_as rfl rfl <| r_nx h7 <| c_sq fun k9 h9 => c_rg <| r_mv rfl rfl <| r_nc rfl rfl <| r_fa 1 rfl (fun _ => by kernel_rfl) rfl <| r_lb 0 Try.underlying59 rfl rfl rfl rfl rfl <| r_ls Try.underlying59 rfl rfl <| r_as rfl rfl <| r_nx h9 <| c_rt ?_; rotate_left)
  exact WE.ret1 () rfl rfl rfl trivial Mem.keep
set_option maxRecDepth 100000 in
theorem appendAscii_spec (p : Option Addr × Nat) (l : List UInt8) (c : UInt8) (hc : c.toNat < 128) (hn : l.length ≤ 1000000000000) (w0 : World) (m0 : List Res) :
    Ct (α := Option Addr × Nat) Try.prog 59 [.slice p.1 l.length p.2, .int .i32 c.toNat] w0 [OwnB p l] m0 (fun _ => True) (fun q => .slice q.1 (l ++ [c]).length q.2) (fun q => [OwnB q (l ++ [c])]) := by
  refine Ct.of Try.func59 rfl (by kernel_rfl) rfl ?_
  (refine c_sq fun k8 h8 => c_rg <| r_as rfl rfl <| r_nx h8 <| c_sq fun k10 h10 => c_sq fun k12 h12 => c_rg <| r_mv rfl rfl <| r_cv rfl (cv_int (k' := .u32) rfl Try.underlying106 (wu32 (by omega))) rfl <| r_leT rfl rfl rfl (by omega) <| r_nx h12 <| c_cT rfl <| c_sq fun k14 h14 => c_rg <| r_mv rfl rfl <| r_mv rfl rfl <| r_cv rfl (cv_int (k' := .u8) rfl Try.underlying5 (w8 (by omega))) rfl <| r_bo Try.underlying59 rfl (fun _ => by kernel_rfl) rfl rfl rfl (fun _ => ?_); rotate_left)
  (rotate_left)
  (rotate_left)
  refine r_am (ys := [c]) 1 (z := .int .u8 0) (by_ := 1) (f := fun b : UInt8 => .int .u8 b.toNat) Try.underlying59 (by kernel_rfl) rfl rfl rfl rfl (Rd.own 0 rfl) rfl (fun _ => rfl) (by omega) rfl (fun q _ => ?_)
  (refine r_as rfl rfl <| r_nx h14 <| c_rt <| WE.then_r ?_; rotate_left)
  exact WE.ret1 q rfl rfl rfl trivial (Mem.pick [1] (by decide) rfl)
set_option maxRecDepth 100000 in
theorem writeAscii_spec (u : Bool) (g : Nat) (p : Option Addr × Nat) (l : List UInt8) (c : UInt8) (hc : c.toNat < 128) (hn : l.length ≤ 1000000000000) (w0 : World) (m0 : List Res) :
    Ct (α := Option Addr × Nat) Try.prog 45 [.pointer (some ⟨g, 0, none⟩), .int .i32 c.toNat] w0 [BB u g p l, OwnB p l] m0 (fun _ => True) (fun _ => .tuple #[.int .i64 1, .nilIface]) (fun q => [BB true g q (l ++ [c]), OwnB q (l ++ [c])]) := by
  refine Ct.of Try.func45 rfl (by kernel_rfl) rfl ?_
  (refine c_sq fun k10 h10 => c_rg <| r_as rfl rfl <| r_as rfl rfl <| r_nx h10 <| c_sq fun k12 h12 => c_rg <| r_mv rfl rfl ?_; rotate_left)
  refine WX.call (m1 := [BB u g p l]) (m2 := [OwnB p l]) rfl rfl rfl (copyCheck_spec u g _ _ _) rfl rfl (fun _ _ => ?_)
  (refine r_nx h12 <| c_sq fun k16 h16 => c_rg <| r_mv rfl rfl <| r_nc rfl rfl <| r_fa 1 rfl (fun _ => by kernel_rfl) rfl <| r_lb 0 Try.underlying59 rfl rfl rfl rfl rfl <| r_ls Try.underlying59 rfl rfl <| r_as rfl rfl <| r_nx h16 <| c_sq fun k18 h18 => c_rg <| r_mv rfl rfl <| r_mv rfl rfl <| r_nc rfl rfl <| r_fa 1 rfl (fun _ => by kernel_rfl) rfl <| r_lb 0 Try.underlying59 rfl rfl rfl rfl rfl <| r_mv rfl rfl ?_; rotate_left)
  refine WX.mem (m' := [OwnB p l, BB true g p l]) (Mem.pick [1, 0] (by decide) rfl) ?_
  refine WX.call (m1 := [OwnB p l]) (m2 := [BB true g p l]) rfl rfl rfl (appendAscii_spec p l c hc hn _ _) rfl rfl (fun q _ => ?_)
  have hsz : (((l ++ [c]).length : Nat) : Int) = l.length + 1 := by simp
  have hsub : (((l ++ [c]).length : Nat) : Int) - (l.length : Int) = 1 := by omega
  (refine r_nc rfl rfl <| r_fa 1 rfl (fun _ => by kernel_rfl) rfl <| r_st 1 (by kernel_rfl) rfl rfl rfl rfl rfl rfl rfl <| r_nx h18 <| c_sq fun k24 h24 => c_rg <| r_mv rfl rfl <| r_nc rfl rfl <| r_fa 1 rfl (fun _ => by kernel_rfl) rfl <| r_lb 1 Try.underlying59 rfl rfl rfl rfl rfl <| r_ls Try.underlying59 rfl rfl <| r_mv rfl rfl <| r_su rfl rfl rfl (wsub64 (by omega)) <| r_as rfl rfl <| r_as rfl rfl <| r_nx h24 <| c_rt ?_; rotate_left)
  exact WE.ret2 q rfl rfl rfl rfl (by rw [hsub]) trivial (Mem.pick [1, 0] (by decide) rfl)
set_option maxRecDepth 100000 in
theorem bString_spec (u : Bool) (g : Nat) (p : Option Addr × Nat) (l : List UInt8) (hn : l.length ≤ 1000000000000) (hp : l = [] → p = (none, 0)) (w0 : World) (m0 : List Res) :
    Ct (α := Unit) Try.prog 33 [.pointer (some ⟨g, 0, none⟩)] w0 [BB u g p l, OwnB p l] m0 (fun _ => True) (fun _ => .string ⟨l.toArray⟩) (fun _ => []) := by
  refine Ct.of Try.func33 rfl (by kernel_rfl) rfl ?_
  (refine c_sq fun k9 h9 => c_rg <| r_as rfl rfl <| r_nx h9 <| c_sq fun k11 h11 => ?_)
  refine WC.stail 10 rfl (by kernel_rfl) (by kernel_rfl) ?_
  refine WS.q (d := 3) (Qv.move rfl) rfl rfl rfl ?_
  refine WS.q (d := 4) (Qv.nilCheck rfl) rfl rfl rfl ?_
  refine WS.q (d := 5) (Qv.fieldAddr (b := ⟨g, 1, none⟩) rfl (fun _ => by kernel_rfl)) rfl rfl rfl ?_
  refine WS.q (d := 6) (Qv.load_blk (i := 0) Try.underlying59 rfl rfl rfl rfl) rfl rfl rfl ?_
  refine WS.q (d := 7) (v := .pointer p.1) (fun ev hev w hw => by
    have hown : w.ownsRow w0.heap.size 5 1 (.slice p.1 l.length p.2) l.length (bys l) := hw.all 1 _ rfl
    have hrun : (Builtin.unsafeSliceData_ #[59] 96 #[.slice p.1 l.length p.2]).run Try.prog w = .ok (.pointer p.1) w := by
      rcases hown.2 with ⟨h, _⟩ | ⟨g', cap, cur, h, _, _, hnc, _⟩
      · injection h with h1 h2 h3
        rw [h1]
        exact Go.Lib.run_unsafeSliceData_nil w _ _ _ _
      · injection h with h1 h2 h3
        rw [h1, h3]
        refine Go.Lib.run_unsafeSliceData_row w _ _ _ _ _ (fun h0 => ?_)
        have hl : l = [] := List.eq_nil_of_length_eq_zero (by omega)
        rw [hp hl] at h1
        cases h1
    have hx := hev (.tmp 6) (.slice p.1 l.length p.2) rfl
    simp [execOp, resolve, invoke, builtin, hx, hrun]) rfl rfl rfl ?_
  refine WS.q (d := 8) (Qv.move rfl) rfl rfl rfl ?_
  refine WS.q (d := 9) (Qv.nilCheck rfl) rfl rfl rfl ?_
  refine WS.q (d := 10) (Qv.fieldAddr (b := ⟨g, 1, none⟩) rfl (fun _ => by kernel_rfl)) rfl rfl rfl ?_
  refine WS.q (d := 11) (Qv.load_blk (i := 0) Try.underlying59 rfl rfl rfl rfl) rfl rfl rfl ?_
  refine WS.q (d := 12) (Qv.len_slice Try.underlying59 rfl) rfl rfl rfl ?_
  refine WS.nil ?_
  refine WT.ev (α := Unit) (φ := fun _ => True) (v := fun _ => .string ⟨l.toArray⟩) (m' := fun _ => []) (d := 13) (fun ev hev w hw => by
    have hown : w.ownsRow w0.heap.size 5 1 (.slice p.1 l.length p.2) l.length (bys l) := hw.all 1 _ rfl
    have hx := hev (.tmp 7) (.pointer p.1) rfl
    have hy := hev (.tmp 12) (.int .i64 l.length) rfl
    by_cases hl : l = []
    · refine ⟨(), w, trivial, ?_, Mem.drop w hw⟩
      have hrun := Go.Lib.run_unsafeString_none (P := Try.prog) w 96 3 9 p.1
      have hl0 : (l.length : Int) = 0 := by rw [hl]; rfl
      have hb : (⟨l.toArray⟩ : ByteArray) = .empty := by rw [hl]; rfl
      rw [hl0] at hy
      rw [hb]
      simp [execOp, resolve, invoke, builtin, hx, hy, hrun]
    · rcases hown.2 with ⟨_, h'⟩ | ⟨g', cap, cur, h, hbg, hg, hnc, hcm, hcs, ht⟩
      · exact absurd (List.eq_nil_of_length_eq_zero h') hl
      · injection h with h1 h2 h3
        have hcs' : cur.size = cap := by simpa using hcs
        have hrun := Go.Lib.run_unsafeString_row (P := Try.prog) w 96 3 9 5 Try.underlying96 (by kernel_rfl) g' cur.size (by simp [World.shape?, hg]) l hl (by omega) (by omega)
          (fun j x hj => hown.cells (g := g') (by rw [h1]; rfl) j _ (by simp [hj]))
        refine ⟨(), w.freeze ⟨g', 0, none⟩ l.length, trivial, ?_, ?_⟩
        · rw [h1] at hx
          simp [execOp, resolve, invoke, builtin, hx, hy, hrun]
        · have hw2 : Mem w0 ([OwnB p l] ++ m0) w := Mem.pick (m' := [OwnB p l]) [1] (by decide) rfl w hw
          refine Mem.eat (r := OwnB p l) hw2 ?_
          have hb : (OwnB p l).block = some g' := by show p.1.map (·.block) = some g'; rw [h1]; rfl
          rw [hb]
          unfold World.freeze
          split
          · exact ⟨rfl, rfl, rfl, Nat.le_refl _, fun _ _ _ => rfl⟩
          · exact ⟨rfl, rfl, rfl, by simp, fun k _ hk => by
              simp only [Array.getElem?_modify]
              rw [if_neg (fun e => hk (by rw [e]))]⟩) rfl rfl rfl (fun _ _ => ?_)
  refine WT.q (d := 2) (Qv.assign rfl) rfl rfl rfl ?_
  refine WT.nil ?_
  (refine WE.then_n h11 <| c_rt ?_; rotate_left)
  exact WE.ret1 () rfl rfl rfl trivial Mem.keep
end Go.Proofs.Ythnabbidlmihbaa
