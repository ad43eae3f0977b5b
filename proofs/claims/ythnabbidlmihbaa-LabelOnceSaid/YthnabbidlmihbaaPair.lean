/- What a letter and a mark make: the contracts of fold.made, fold.runeAt, fold.pair. -/
import Derived.Test.YthnabbidlmihbaaMap
namespace Go.Proofs.Ythnabbidlmihbaa
open Go.RowKit Go.Gp

/-- What a letter makes with the marks, in turn. -/
def madeL (c : Int) : List Int :=
  if c = 97 then [224, 225, 226, 227, 228, 229, 0] else if c = 99 then [0, 0, 0, 0, 0, 0, 231] else if c = 101 then [232, 233, 234, 0, 235, 0, 0]
  else if c = 105 then [236, 237, 238, 0, 239, 0, 0] else if c = 110 then [0, 0, 0, 241, 0, 0, 0] else if c = 111 then [242, 243, 244, 245, 246, 0, 0]
  else if c = 117 then [249, 250, 251, 0, 252, 0, 0] else if c = 121 then [0, 253, 0, 0, 255, 0, 0] else [0, 0, 0, 0, 0, 0, 0]
theorem madeL_length (c : Int) : (madeL c).length = 7 := by unfold madeL; repeat' split <;> try rfl
theorem zero7 (w : World) : (zeroValue 101).run Try.prog w = .ok (.agg (runes [0, 0, 0, 0, 0, 0, 0]).toArray) w := by kernel_rfl

set_option maxRecDepth 100000 in
theorem made_spec (c : Int) (w0 : World) (m0 : List Res) : PureC Try.prog 61 [.int .i32 c] w0 m0 (.agg (runes (madeL c)).toArray) := by
  refine Ct.of Try.func61 rfl (by kernel_rfl) rfl ?_
  refine c_sq fun _ h => c_rg (r_al zero7 (cs := runes [0, 0, 0, 0, 0, 0, 0]) rfl rfl fun b => r_nx h ?_)
  (refine c_sq fun k7 h7 => c_sq fun k9 h9 => c_rg <| r_mv rfl rfl <| r_nx h9 <| c_bl <| c_sq fun k11 h11 => c_rg <| r_eqC rfl rfl rfl (fun _ => ?_) (fun _ => ?_); refine r_as rfl rfl <| r_nx h11 <| c_cT rfl <| c_sq fun k14 h14 => c_rg <| r_bd rfl (fun _ => by kernel_rfl) rfl <| r_sa 0 (by kernel_rfl) rfl rfl rfl rfl rfl rfl rfl <| r_nx h14 <| c_rt <| WE.blk_r <| WE.then_r ?_; rotate_left; refine r_as rfl rfl <| r_nx h11 <| c_cF rfl <| c_sq fun k14 h14 => c_rg <| r_eqC rfl rfl rfl (fun _ => ?_) (fun _ => ?_); refine r_as rfl rfl <| r_nx h14 <| c_cT rfl <| c_sq fun k17 h17 => c_rg ?_; rotate_left; refine r_as rfl rfl <| r_nx h14 <| c_cF rfl <| c_sq fun k17 h17 => c_rg <| r_eqC rfl rfl rfl (fun _ => ?_) (fun _ => ?_); refine r_as rfl rfl <| r_nx h17 <| c_cT rfl <| c_sq fun k20 h20 => c_rg ?_; rotate_left; refine r_as rfl rfl <| r_nx h17 <| c_cF rfl <| c_sq fun k20 h20 => c_rg <| r_eqC rfl rfl rfl (fun _ => ?_) (fun _ => ?_); refine r_as rfl rfl <| r_nx h20 <| c_cT rfl <| c_sq fun k23 h23 => c_rg ?_; rotate_left; refine r_as rfl rfl <| r_nx h20 <| c_cF rfl <| c_sq fun k23 h23 => c_rg <| r_eqC rfl rfl rfl (fun _ => ?_) (fun _ => ?_); refine r_as rfl rfl <| r_nx h23 <| c_cT rfl <| c_sq fun k26 h26 => c_rg ?_; rotate_left; refine r_as rfl rfl <| r_nx h23 <| c_cF rfl <| c_sq fun k26 h26 => c_rg <| r_eqC rfl rfl rfl (fun _ => ?_) (fun _ => ?_); refine r_as rfl rfl <| r_nx h26 <| c_cT rfl <| c_sq fun k29 h29 => c_rg ?_; rotate_left; refine r_as rfl rfl <| r_nx h26 <| c_cF rfl <| c_sq fun k29 h29 => c_rg <| r_eqC rfl rfl rfl (fun _ => ?_) (fun _ => ?_); refine r_as rfl rfl <| r_nx h29 <| c_cT rfl <| c_sq fun k32 h32 => c_rg ?_; rotate_left; refine r_as rfl rfl <| r_nx h29 <| c_cF rfl <| c_sq fun k32 h32 => c_rg <| r_eqC rfl rfl rfl (fun _ => ?_) (fun _ => ?_); refine r_as rfl rfl <| r_nx h32 <| c_cT rfl <| c_sq fun k35 h35 => c_rg ?_; rotate_left; refine r_as rfl rfl <| r_nx h32 <| c_cF rfl <| c_sk <| WE.blk_n <| WE.then_n h7 <| c_sq fun k35 h35 => c_rg ?_; rotate_left)
  · have e : madeL c = [224, 225, 226, 227, 228, 229, 0] := by unfold madeL; rw [if_pos (by assumption)]
    exact WE.retc (i := 0) (cs := runes [224, 225, 226, 227, 228, 229, 0]) () rfl rfl Try.underlying101 rfl (by kernel_rfl) rfl rfl (by rw [e]) trivial Mem.drop
  · have e : madeL c = [0, 0, 0, 0, 0, 0, 231] := by unfold madeL; rw [if_neg (by assumption)]; rw [if_pos (by assumption)]
    refine r_bu (v := .agg (runes [0, 0, 0, 0, 0, 0, 231]).toArray) rfl (fun _ => by kernel_rfl) rfl ?_
    refine r_sa 0 (us := runes [0, 0, 0, 0, 0, 0, 231]) (by kernel_rfl) rfl rfl rfl rfl rfl rfl rfl ?_
    (refine r_nx h17 <| c_rt <| WE.blk_r <| WE.then_r ?_; rotate_left)
    exact WE.retc (i := 0) (cs := runes [0, 0, 0, 0, 0, 0, 231]) () rfl rfl Try.underlying101 rfl (by kernel_rfl) rfl rfl (by rw [e]) trivial Mem.drop
  · have e : madeL c = [232, 233, 234, 0, 235, 0, 0] := by unfold madeL; rw [if_neg (by assumption)]; rw [if_neg (by assumption)]; rw [if_pos (by assumption)]
    refine r_bu (v := .agg (runes [232, 233, 234, 0, 235, 0, 0]).toArray) rfl (fun _ => by kernel_rfl) rfl ?_
    refine r_sa 0 (us := runes [232, 233, 234, 0, 235, 0, 0]) (by kernel_rfl) rfl rfl rfl rfl rfl rfl rfl ?_
    (refine r_nx h20 <| c_rt <| WE.blk_r <| WE.then_r ?_; rotate_left)
    exact WE.retc (i := 0) (cs := runes [232, 233, 234, 0, 235, 0, 0]) () rfl rfl Try.underlying101 rfl (by kernel_rfl) rfl rfl (by rw [e]) trivial Mem.drop
  · have e : madeL c = [236, 237, 238, 0, 239, 0, 0] := by unfold madeL; rw [if_neg (by assumption)]; rw [if_neg (by assumption)]; rw [if_neg (by assumption)]; rw [if_pos (by assumption)]
    refine r_bu (v := .agg (runes [236, 237, 238, 0, 239, 0, 0]).toArray) rfl (fun _ => by kernel_rfl) rfl ?_
    refine r_sa 0 (us := runes [236, 237, 238, 0, 239, 0, 0]) (by kernel_rfl) rfl rfl rfl rfl rfl rfl rfl ?_
    (refine r_nx h23 <| c_rt <| WE.blk_r <| WE.then_r ?_; rotate_left)
    exact WE.retc (i := 0) (cs := runes [236, 237, 238, 0, 239, 0, 0]) () rfl rfl Try.underlying101 rfl (by kernel_rfl) rfl rfl (by rw [e]) trivial Mem.drop
  · have e : madeL c = [0, 0, 0, 241, 0, 0, 0] := by unfold madeL; rw [if_neg (by assumption)]; rw [if_neg (by assumption)]; rw [if_neg (by assumption)]; rw [if_neg (by assumption)]; rw [if_pos (by assumption)]
    refine r_bu (v := .agg (runes [0, 0, 0, 241, 0, 0, 0]).toArray) rfl (fun _ => by kernel_rfl) rfl ?_
    refine r_sa 0 (us := runes [0, 0, 0, 241, 0, 0, 0]) (by kernel_rfl) rfl rfl rfl rfl rfl rfl rfl ?_
    (refine r_nx h26 <| c_rt <| WE.blk_r <| WE.then_r ?_; rotate_left)
    exact WE.retc (i := 0) (cs := runes [0, 0, 0, 241, 0, 0, 0]) () rfl rfl Try.underlying101 rfl (by kernel_rfl) rfl rfl (by rw [e]) trivial Mem.drop
  · have e : madeL c = [242, 243, 244, 245, 246, 0, 0] := by unfold madeL; rw [if_neg (by assumption)]; rw [if_neg (by assumption)]; rw [if_neg (by assumption)]; rw [if_neg (by assumption)]; rw [if_neg (by assumption)]; rw [if_pos (by assumption)]
    refine r_bu (v := .agg (runes [242, 243, 244, 245, 246, 0, 0]).toArray) rfl (fun _ => by kernel_rfl) rfl ?_
    refine r_sa 0 (us := runes [242, 243, 244, 245, 246, 0, 0]) (by kernel_rfl) rfl rfl rfl rfl rfl rfl rfl ?_
    (refine r_nx h29 <| c_rt <| WE.blk_r <| WE.then_r ?_; rotate_left)
    exact WE.retc (i := 0) (cs := runes [242, 243, 244, 245, 246, 0, 0]) () rfl rfl Try.underlying101 rfl (by kernel_rfl) rfl rfl (by rw [e]) trivial Mem.drop
  · have e : madeL c = [249, 250, 251, 0, 252, 0, 0] := by unfold madeL; rw [if_neg (by assumption)]; rw [if_neg (by assumption)]; rw [if_neg (by assumption)]; rw [if_neg (by assumption)]; rw [if_neg (by assumption)]; rw [if_neg (by assumption)]; rw [if_pos (by assumption)]
    refine r_bu (v := .agg (runes [249, 250, 251, 0, 252, 0, 0]).toArray) rfl (fun _ => by kernel_rfl) rfl ?_
    refine r_sa 0 (us := runes [249, 250, 251, 0, 252, 0, 0]) (by kernel_rfl) rfl rfl rfl rfl rfl rfl rfl ?_
    (refine r_nx h32 <| c_rt <| WE.blk_r <| WE.then_r ?_; rotate_left)
    exact WE.retc (i := 0) (cs := runes [249, 250, 251, 0, 252, 0, 0]) () rfl rfl Try.underlying101 rfl (by kernel_rfl) rfl rfl (by rw [e]) trivial Mem.drop
  · have e : madeL c = [0, 253, 0, 0, 255, 0, 0] := by unfold madeL; rw [if_neg (by assumption)]; rw [if_neg (by assumption)]; rw [if_neg (by assumption)]; rw [if_neg (by assumption)]; rw [if_neg (by assumption)]; rw [if_neg (by assumption)]; rw [if_neg (by assumption)]; rw [if_pos (by assumption)]
    refine r_bu (v := .agg (runes [0, 253, 0, 0, 255, 0, 0]).toArray) rfl (fun _ => by kernel_rfl) rfl ?_
    refine r_sa 0 (us := runes [0, 253, 0, 0, 255, 0, 0]) (by kernel_rfl) rfl rfl rfl rfl rfl rfl rfl ?_
    (refine r_nx h35 <| c_rt <| WE.blk_r <| WE.then_r ?_; rotate_left)
    exact WE.retc (i := 0) (cs := runes [0, 253, 0, 0, 255, 0, 0]) () rfl rfl Try.underlying101 rfl (by kernel_rfl) rfl rfl (by rw [e]) trivial Mem.drop
  · have e : madeL c = [0, 0, 0, 0, 0, 0, 0] := by unfold madeL; rw [if_neg (by assumption)]; rw [if_neg (by assumption)]; rw [if_neg (by assumption)]; rw [if_neg (by assumption)]; rw [if_neg (by assumption)]; rw [if_neg (by assumption)]; rw [if_neg (by assumption)]; rw [if_neg (by assumption)]
    refine r_bu (v := .agg (runes [0, 0, 0, 0, 0, 0, 0]).toArray) rfl (fun _ => by kernel_rfl) rfl ?_
    refine r_sa 0 (us := runes [0, 0, 0, 0, 0, 0, 0]) (by kernel_rfl) rfl rfl rfl rfl rfl rfl rfl ?_
    (refine r_nx h35 <| c_rt ?_; rotate_left)
    exact WE.retc (i := 0) (cs := runes [0, 0, 0, 0, 0, 0, 0]) () rfl rfl Try.underlying101 rfl (by kernel_rfl) rfl rfl (by rw [e]) trivial Mem.drop

def marksB : ByteArray := ⟨#[204, 128, 204, 129, 204, 130, 204, 131, 204, 136, 204, 138, 204, 167]⟩
def markN : List Nat := [768, 769, 770, 771, 776, 778, 807]
/-- Where a mark stands among all of them, two bytes each; -1: it is none. -/
def markAt (r : Int) : Int := if r = 768 then 0 else if r = 769 then 2 else if r = 770 then 4 else if r = 771 then 6 else if r = 776 then 8 else if r = 778 then 10 else if r = 807 then 12 else -1
theorem decode_marks (i : Nat) (h : i < 7) : Utf8.decode marksB (2 * i) = (markN.getD i 0, 2) := by
  have h' : i = 0 ∨ i = 1 ∨ i = 2 ∨ i = 3 ∨ i = 4 ∨ i = 5 ∨ i = 6 := by omega
  rcases h' with rfl | rfl | rfl | rfl | rfl | rfl | rfl <;> decide +kernel
theorem markAt_at {r : Int} {i : Nat} (h : i < 7) (e : ((markN.getD i 0 : Nat) : Int) = r) : markAt r = 2 * (i : Int) := by
  have h' : i = 0 ∨ i = 1 ∨ i = 2 ∨ i = 3 ∨ i = 4 ∨ i = 5 ∨ i = 6 := by omega
  rcases h' with rfl | rfl | rfl | rfl | rfl | rfl | rfl <;> (simp [markN] at e; subst e; decide)
theorem markAt_no {r : Int} (h : ∀ j, j < 7 → ((markN.getD j 0 : Nat) : Int) ≠ r) : markAt r = -1 := by
  have h0 := h 0 (by omega); have h1 := h 1 (by omega); have h2 := h 2 (by omega); have h3 := h 3 (by omega); have h4 := h 4 (by omega); have h5 := h 5 (by omega); have h6 := h 6 (by omega)
  simp [markN] at h0 h1 h2 h3 h4 h5 h6
  unfold markAt
  rw [if_neg (by omega), if_neg (by omega), if_neg (by omega), if_neg (by omega), if_neg (by omega), if_neg (by omega), if_neg (by omega)]
theorem markAt_bd (r : Int) : -1 ≤ markAt r ∧ markAt r ≤ 12 ∧ (0 ≤ markAt r → 768 ≤ r) ∧ (markAt r = -1 ∨ 0 ≤ markAt r) := by
  unfold markAt; repeat' split <;> omega

theorem runeAt_spec (r : Int) (w0 : World) (m0 : List Res) : PureC Try.prog 60 [.string marksB, .int .i32 r] w0 m0 (.int .i64 (markAt r)) := by
  refine Ct.of Try.func60 rfl (by kernel_rfl) rfl ?_
  (refine c_sq fun k4 h4 => c_rg <| r_as rfl rfl <| r_nx h4 <| c_sq fun k6 h6 => c_sq fun k8 h8 => c_rg <| r_mv rfl rfl <| r_rg Try.underlying9 rfl rfl (fun _ => ?_); refine r_nx h8 <| c_bl ?_; rotate_left)
  rename_i b
  refine WC.loop (α := Nat) (fun _ => [(1, .int .i32 r), (8, .pointer (some ⟨b, 0, none⟩))]) (fun i => [.obj b (.stringIter marksB (2 * i))]) (fun i => i ≤ 7 ∧ ∀ j, j < i → ((markN.getD j 0 : Nat) : Int) ≠ r) (fun i => 7 - i) 0 ⟨by omega, by omega⟩ ⟨rfl, rfl, trivial⟩ Mem.keep ?_
  rintro i ⟨hi, hb⟩
  by_cases hlt : i < 7
  · (refine c_sq fun k15 h15 => c_rg ?_; rotate_left)
    refine r_nT 0 (show 2 * i < 14 by omega) (decode_marks i hlt) rfl rfl rfl rfl ?_
    by_cases he : ((markN.getD i 0 : Nat) : Int) = r
    · (refine r_ex rfl rfl rfl <| r_nx h15 <| c_sq fun k18 h18 => c_cT rfl <| c_sk <| WE.then_n h18 <| c_bl <| c_sq fun k20 h20 => c_rg <| r_ex rfl rfl rfl <| r_ex rfl rfl rfl <| r_as rfl rfl <| r_as rfl rfl <| r_nx h20 <| c_sq fun k22 h22 => c_rg <| r_mv rfl rfl <| r_mv rfl rfl <| r_eqT rfl rfl rfl (by omega) <| r_nx h22 <| c_cT rfl <| c_sq fun k24 h24 => c_rg <| r_mv rfl rfl <| r_as rfl rfl <| r_nx h24 <| c_rt <| WE.blk_r <| WE.then_r <| WE.blk_r <| WE.then_r ?_; rotate_left)
      exact WE.ret1 () rfl rfl (by rw [markAt_at hlt he]; rfl) trivial Mem.drop
    · (refine r_ex rfl rfl rfl <| r_nx h15 <| c_sq fun k18 h18 => c_cT rfl <| c_sk <| WE.then_n h18 <| c_bl <| c_sq fun k20 h20 => c_rg <| r_ex rfl rfl rfl <| r_ex rfl rfl rfl <| r_as rfl rfl <| r_as rfl rfl <| r_nx h20 <| c_sq fun k22 h22 => c_rg <| r_mv rfl rfl <| r_mv rfl rfl <| r_eqF rfl rfl rfl (by omega) <| r_nx h22 <| c_cF rfl <| c_sk <| WE.blk_n ?_; rotate_left)
      exact WE.back (i + 1) ⟨by omega, fun j hj => by rcases Nat.lt_succ_iff_lt_or_eq.1 hj with h | rfl; exact hb j h; exact he⟩ (by omega) ⟨rfl, rfl, trivial⟩ Mem.keep
  · have h7 : i = 7 := by omega
    (refine c_sq fun k16 h16 => c_rg ?_; rotate_left)
    refine r_nF 0 (show ¬ 2 * i < 14 by omega) rfl rfl rfl ?_
    (refine r_ex rfl rfl rfl <| r_nx h16 <| c_sq fun k18 h18 => c_cF rfl <| c_ex <| WE.then_x <| WE.then_x <| WE.blk_x <| WE.then_n h6 <| c_sq fun k20 h20 => c_rg <| r_as rfl rfl <| r_nx h20 <| c_rt ?_; rotate_left)
    exact WE.ret1 () rfl rfl (by rw [markAt_no (fun j hj => hb j (by omega))]; rfl) trivial Mem.drop

theorem index7 (l : List Int) (hl : l.length = 7) (i : Nat) (h : i < 7) (w : World) : (Instr.index 101 (.agg (runes l).toArray) (.int .i64 i)).run Try.prog w = .ok (.int .i32 (l.getD i 0)) w := by
  match l, hl with
  | [a0, a1, a2, a3, a4, a5, a6], _ =>
    have h' : i = 0 ∨ i = 1 ∨ i = 2 ∨ i = 3 ∨ i = 4 ∨ i = 5 ∨ i = 6 := by omega
    rcases h' with rfl | rfl | rfl | rfl | rfl | rfl | rfl
    all_goals (show _ = _; kernel_rfl)

/-- What a letter and a mark make, or 0. -/
def pairR (c mark : Int) : Int := if markAt mark < 0 then 0 else (madeL c).getD (markAt mark / 2).toNat 0
theorem pair_spec (c r : Int) (w0 : World) (m0 : List Res) : PureC Try.prog 51 [.int .i32 c, .int .i32 r] w0 m0 (.int .i32 (pairR c r)) := by
  have hbd := markAt_bd r
  refine Ct.of Try.func51 rfl (by kernel_rfl) rfl ?_
  (refine c_sq fun k6 h6 => c_rg <| r_as rfl rfl <| r_nx h6 <| c_sq fun k8 h8 => c_rg <| r_mv rfl rfl ?_; rotate_left)
  refine WX.pure rfl rfl (runeAt_spec r _ _) rfl rfl ?_
  by_cases h0 : markAt r < 0
  · (refine r_as rfl rfl <| r_nx h8 <| c_sq fun k11 h11 => c_sq fun k13 h13 => c_rg <| r_mv rfl rfl <| r_ltC rfl rfl rfl (fun _ => ?_) (fun _ => ?_); refine r_mv rfl rfl <| r_sk rfl rfl <| r_sk rfl rfl <| r_pT rfl rfl rfl <| r_nx h13 <| c_cT rfl <| c_sq fun k16 h16 => c_rg <| r_as rfl rfl <| r_nx h16 <| c_rt <| WE.then_r ?_; rotate_left; refine r_mv rfl rfl <| r_mv rfl rfl <| r_ltT rfl rfl rfl (by omega) <| r_pF rfl rfl rfl <| r_nx h13 <| c_cT rfl <| c_sq fun k16 h16 => c_rg <| r_as rfl rfl <| r_nx h16 <| c_rt <| WE.then_r ?_; rotate_left)
    all_goals exact WE.ret1 () rfl rfl (by rw [pairR, if_pos h0]; rfl) trivial Mem.drop
  · (refine r_as rfl rfl <| r_nx h8 <| c_sq fun k11 h11 => c_sq fun k13 h13 => c_rg <| r_mv rfl rfl <| r_ltF rfl rfl rfl (by omega) <| r_mv rfl rfl <| r_mv rfl rfl <| r_ltF rfl rfl rfl (by omega) <| r_pF rfl rfl rfl <| r_nx h13 <| c_cF rfl <| c_sk <| WE.then_n h11 <| c_sq fun k15 h15 => c_rg <| r_mv rfl rfl ?_; rotate_left)
    refine WX.pure rfl rfl (made_spec c _ _) rfl rfl ?_
    obtain ⟨i, hi⟩ : ∃ i : Nat, markAt r / 2 = i := ⟨(markAt r / 2).toNat, by omega⟩
    (refine r_mv rfl rfl <| r_qu rfl rfl rfl (by omega) (wquo64 (by omega)) ?_; rotate_left)
    refine r_ix rfl rfl (by rw [hi]; exact index7 (madeL c) (madeL_length c) i (by omega)) rfl ?_
    (refine r_as rfl rfl <| r_nx h15 <| c_rt ?_; rotate_left)
    exact WE.ret1 () rfl rfl (by rw [pairR, if_neg h0, hi]; rfl) trivial Mem.drop
end Go.Proofs.Ythnabbidlmihbaa
