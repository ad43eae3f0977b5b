/- The law FoldCapitals: the walk. -/
import Derived.Test.YtbcceecocjpnpaaFoldOnce
import Derived.Test.YtbcceecocjpnpaaMore
namespace Go.Proofs.Ytbcceecocjpnpaa
open Go.RowKit Go.Gp

def lowC (s : ByteArray) (j : Nat) : Int := ((s.data.getD j 0).toNat : Int) % 128
def capC (c : Int) : Int := if 97 ≤ c ∧ c ≤ 122 then c - 32 else c
def lowsP (s : ByteArray) (i : Nat) : List Int := (List.range i).map (lowC s)
def capsP (s : ByteArray) (i : Nat) : List Int := (List.range i).map fun j => capC (lowC s j)
theorem lowsP_length (s : ByteArray) (i : Nat) : (lowsP s i).length = i := by simp [lowsP]
theorem capsP_length (s : ByteArray) (i : Nat) : (capsP s i).length = i := by simp [capsP]
theorem lowsP_succ (s : ByteArray) (i : Nat) : lowsP s (i + 1) = lowsP s i ++ [lowC s i] := by simp [lowsP, List.range_succ]
theorem capsP_succ (s : ByteArray) (i : Nat) : capsP s (i + 1) = capsP s i ++ [capC (lowC s i)] := by simp [capsP, List.range_succ]
theorem lowC_bd (s : ByteArray) (j : Nat) : 0 ≤ lowC s j ∧ lowC s j ≤ 127 := by unfold lowC; omega
theorem capC_bd {c : Int} (h : 0 ≤ c ∧ c ≤ 127) : 0 ≤ capC c ∧ capC c ≤ 127 := by unfold capC; split <;> omega
theorem low_map {c : Int} (h : 0 ≤ c ∧ c ≤ 127) : mapP c = ([if 65 ≤ c ∧ c ≤ 90 then c + 32 else c], true) := by
  rw [map_law c (by omega) (by omega), rb_plain (by omega) (by omega) (by omega) (by omega)]
  split
  · rw [r1_up (by omega)]
  · rw [r1_no (by omega) (by omega) (by omega), Int.add_zero]
theorem cap_map {c : Int} (h : 0 ≤ c ∧ c ≤ 127) : mapP (capC c) = mapP c := by
  rw [low_map h, low_map (capC_bd h)]
  unfold capC
  by_cases h1 : 97 ≤ c ∧ c ≤ 122
  · rw [if_pos h1, if_pos (by omega), if_neg (by omega), Int.sub_add_cancel]
  · rw [if_neg h1]
theorem caps_all (s : ByteArray) (n : Nat) : okAll (lowsP s n) = true ∧ okAll (capsP s n) = true ∧ mapAll (capsP s n) = mapAll (lowsP s n) ∧ (mapAll (lowsP s n)).length = n ∧ ∀ x ∈ mapAll (lowsP s n), x < 768 := by
  induction n with
  | zero => exact ⟨rfl, rfl, rfl, rfl, by simp [lowsP, mapAll]⟩
  | succ n ih =>
    obtain ⟨h1, h2, h3, h4, h5⟩ := ih
    have hb := lowC_bd s n
    rw [lowsP_succ, capsP_succ, okAll_snoc, okAll_snoc, mapAll_snoc, mapAll_snoc, cap_map hb, h1, h2, h3, low_map hb]
    refine ⟨rfl, rfl, rfl, by simp [h4], fun x hx => ?_⟩
    rcases List.mem_append.1 hx with hx | hx
    · exact h5 x hx
    · rw [List.mem_singleton] at hx
      rw [hx]
      split <;> omega
theorem caps_law (s : ByteArray) (n : Nat) : okAll (lowsP s n) = true ∧ okAll (capsP s n) = true ∧ compR (mapAll (lowsP s n)) = compR (mapAll (capsP s n)) ∧ (compR (mapAll (lowsP s n))).length = n := by
  obtain ⟨h1, h2, h3, h4, h5⟩ := caps_all s n
  exact ⟨h1, h2, by rw [h3], by unfold compR; rw [comp_low h5]; simpa using h4⟩
theorem lows_r32 (s : ByteArray) (n : Nat) : R32 (lowsP s n) := R32.of_mem fun x hx => by
  obtain ⟨j, _, rfl⟩ := List.mem_map.1 hx
  have := lowC_bd s j
  omega
theorem caps_r32 (s : ByteArray) (n : Nat) : R32 (capsP s n) := R32.of_mem fun x hx => by
  obtain ⟨j, _, rfl⟩ := List.mem_map.1 hx
  have := capC_bd (lowC_bd s j)
  omega
set_option maxRecDepth 100000 in
theorem foldCapitals_spec (s : ByteArray) (w0 : World) (m0 : List Res) : PureC Try.prog 5 [.string s] w0 m0 (.bool true) := by
  refine Ct.of Try.func5 rfl (by kernel_rfl) rfl ?_
  by_cases hn : s.size ≤ 100
  · (refine c_sq fun k5 h5 => c_rg <| r_as rfl rfl <| r_nx h5 <| c_sq fun k7 h7 => c_rg ?_; rotate_left)
    refine WX.pure rfl rfl (awake5_spec _ _) rfl rfl ?_
    (refine r_as rfl rfl <| r_nx h7 <| c_sq fun k9 h9 => c_sq fun k11 h11 => c_rg <| r_mv rfl rfl <| r_lS Try.underlying9 rfl rfl <| r_gtF rfl rfl rfl (by omega) <| r_nx h11 <| c_cF rfl <| c_sk <| WE.then_n h9 <| c_sq fun k13 h13 => c_rg <| r_as rfl rfl <| r_nx h13 <| c_sq fun k15 h15 => c_rg <| r_as rfl rfl <| r_nx h15 <| c_sq fun k17 h17 => c_sq fun k19 h19 => c_rg <| r_as rfl rfl <| r_nx h19 <| c_bl ?_; rotate_left)
    refine WC.loop (α := Nat × (Option Addr × Nat) × (Option Addr × Nat)) (fun x => [(0, .string s), (3, .bool true), (6, .int .i64 x.1), (4, SlR x.2.1 (lowsP s x.1)), (5, SlR x.2.2 (capsP s x.1))])
      (fun x => [OwnR x.2.1 (lowsP s x.1), OwnR x.2.2 (capsP s x.1)]) (fun x => x.1 ≤ s.size) (fun x => s.size - x.1) (0, (none, 0), (none, 0)) (by simp) ⟨rfl, rfl, rfl, rfl, rfl, trivial⟩ (fun w hw => Mem.addNil _ _ w (Mem.nilOwn _ _ w hw)) ?_
    rintro ⟨i, p, q⟩ hi
    dsimp only at hi ⊢
    by_cases hlt : i < s.size
    · have hb := lowC_bd s i
      have hlow := lowsP_length s i
      have hcap := capsP_length s i
      (refine c_sq fun k29 h29 => c_sq fun k31 h31 => c_rg <| r_mv rfl rfl <| r_mv rfl rfl <| r_lS Try.underlying9 rfl rfl <| r_ltT rfl rfl rfl (by omega) <| r_nx h31 <| c_cT rfl <| c_sk <| WE.then_n h29 <| c_sq fun k33 h33 => c_bl <| c_sq fun k35 h35 => c_rg <| r_mv rfl rfl <| r_mv rfl rfl ?_; rotate_left)
      refine r_iS (v := s.data.getD i 0) rfl rfl rfl rfl (by omega) (by simp [hlt, Array.getD]) ?_
      (refine r_re rfl rfl rfl (by omega) (wrem (by omega)) ?_; rotate_left)
      refine r_cv (r := .int .i32 (lowC s i)) rfl (cv_int (n := lowC s i) (k' := .i32) rfl Try.underlying21 (w32 (by omega))) rfl ?_
      (refine r_as rfl rfl <| r_nx h35 <| c_sq fun k37 h37 => c_rg <| r_mv rfl rfl <| r_mv rfl rfl <| r_bo Try.underlying23 rfl (fun _ => by kernel_rfl) rfl rfl rfl (fun _ => ?_); rotate_left)
      rename_i b1
      refine r_am (ys := [lowC s i]) 1 (z := .int .i32 0) (by_ := 4) (f := (.int .i32 ·)) Try.underlying23 (by kernel_rfl) rfl rfl rfl rfl (Rd.own 0 rfl) rfl (fun _ => rfl) (by omega) rfl (fun p1 _ => ?_)
      rw [← lowsP_succ]
      by_cases hc : 97 ≤ lowC s i ∧ lowC s i ≤ 122
      · obtain ⟨hc1, hc2⟩ := hc
        (refine r_as rfl rfl <| r_nx h37 <| c_sq fun k44 h44 => c_sq fun k46 h46 => c_rg <| r_mv rfl rfl <| r_geT rfl rfl rfl (by omega) <| r_mv rfl rfl <| r_mv rfl rfl <| r_leT rfl rfl rfl (by omega) <| r_pT rfl rfl rfl <| r_nx h46 <| c_cT rfl <| c_rg <| r_mv rfl rfl <| r_su rfl rfl rfl (wsub32 (by omega)) <| r_as rfl rfl <| r_nx h44 <| c_rg <| r_mv rfl rfl <| r_mv rfl rfl <| r_bo Try.underlying23 rfl (fun _ => by kernel_rfl) rfl rfl rfl (fun _ => ?_); rotate_left)
        refine r_am (ys := [capC (lowC s i)]) 3 (z := .int .i32 0) (by_ := 4) (f := (.int .i32 ·)) Try.underlying23 (by kernel_rfl) rfl rfl rfl rfl (Rd.own 0 (by rw [show capC (lowC s i) = lowC s i - 32 by simp [capC, hc1, hc2]]; rfl)) rfl (fun _ => rfl) (by omega) rfl (fun q1 _ => ?_)
        rw [← capsP_succ]
        (refine r_as rfl rfl <| r_nl <| WE.blk_n <| WE.then_n h33 <| c_rg <| r_mv rfl rfl <| r_ad rfl rfl rfl (wadd64 (by omega)) <| r_as rfl rfl <| r_nl ?_; rotate_left)
        exact WE.back (i + 1, p1, q1) (by dsimp only; omega) (by dsimp only; omega) ⟨rfl, rfl, rfl, rfl, rfl, trivial⟩ (Mem.pick [2, 3] (by decide) rfl)
      · have hcc : capC (lowC s i) = lowC s i := by rw [capC, if_neg hc]
        by_cases hc1 : 97 ≤ lowC s i
        · have hc2 : ¬ lowC s i ≤ 122 := fun h => hc ⟨hc1, h⟩
          (refine r_as rfl rfl <| r_nx h37 <| c_sq fun k46 h46 => c_sq fun k48 h48 => c_rg <| r_mv rfl rfl <| r_geT rfl rfl rfl (by omega) <| r_mv rfl rfl <| r_mv rfl rfl <| r_leF rfl rfl rfl (by omega) <| r_pT rfl rfl rfl <| r_nx h48 <| c_cF rfl <| c_sk <| WE.then_n h46 <| c_rg <| r_mv rfl rfl <| r_mv rfl rfl <| r_bo Try.underlying23 rfl (fun _ => by kernel_rfl) rfl rfl rfl (fun _ => ?_); rotate_left)
          refine r_am (ys := [capC (lowC s i)]) 3 (z := .int .i32 0) (by_ := 4) (f := (.int .i32 ·)) Try.underlying23 (by kernel_rfl) rfl rfl rfl rfl (Rd.own 0 (by rw [hcc]; rfl)) rfl (fun _ => rfl) (by omega) rfl (fun q1 _ => ?_)
          rw [← capsP_succ]
          (refine r_as rfl rfl <| r_nl <| WE.blk_n <| WE.then_n h33 <| c_rg <| r_mv rfl rfl <| r_ad rfl rfl rfl (wadd64 (by omega)) <| r_as rfl rfl <| r_nl ?_; rotate_left)
          exact WE.back (i + 1, p1, q1) (by dsimp only; omega) (by dsimp only; omega) ⟨rfl, rfl, rfl, rfl, rfl, trivial⟩ (Mem.pick [2, 3] (by decide) rfl)
        · (refine r_as rfl rfl <| r_nx h37 <| c_sq fun k45 h45 => c_sq fun k47 h47 => c_rg <| r_mv rfl rfl <| r_geF rfl rfl rfl (by omega) <| r_mv rfl rfl <| r_sk rfl rfl <| r_sk rfl rfl <| r_pF rfl rfl rfl <| r_nx h47 <| c_cF rfl <| c_sk <| WE.then_n h45 <| c_rg <| r_mv rfl rfl <| r_mv rfl rfl <| r_bo Try.underlying23 rfl (fun _ => by kernel_rfl) rfl rfl rfl (fun _ => ?_); rotate_left)
          refine r_am (ys := [capC (lowC s i)]) 3 (z := .int .i32 0) (by_ := 4) (f := (.int .i32 ·)) Try.underlying23 (by kernel_rfl) rfl rfl rfl rfl (Rd.own 0 (by rw [hcc]; rfl)) rfl (fun _ => rfl) (by omega) rfl (fun q1 _ => ?_)
          rw [← capsP_succ]
          (refine r_as rfl rfl <| r_nl <| WE.blk_n <| WE.then_n h33 <| c_rg <| r_mv rfl rfl <| r_ad rfl rfl rfl (wadd64 (by omega)) <| r_as rfl rfl <| r_nl ?_; rotate_left)
          exact WE.back (i + 1, p1, q1) (by dsimp only; omega) (by dsimp only; omega) ⟨rfl, rfl, rfl, rfl, rfl, trivial⟩ (Mem.pick [2, 3] (by decide) rfl)
    · have hi' : i = s.size := by omega
      subst hi'
      obtain ⟨l1, l2, l3, l4⟩ := caps_law s s.size
      have hlow := lowsP_length s s.size
      have hcap := capsP_length s s.size
      (refine c_sq fun k32 h32 => c_sq fun k34 h34 => c_rg <| r_mv rfl rfl <| r_mv rfl rfl <| r_lS Try.underlying9 rfl rfl <| r_ltF rfl rfl rfl (by omega) <| r_nx h34 <| c_cF rfl <| c_ex <| WE.then_x <| WE.then_x <| WE.blk_x <| WE.then_n h17 <| c_sq fun k36 h36 => c_rg <| r_mv rfl rfl ?_; rotate_left)
      refine WX.call (m1 := []) (m2 := [OwnR p (lowsP s s.size), OwnR q (capsP s s.size)]) rfl rfl rfl (fold_ok _ _ (lowsP s s.size) (by omega) (lows_r32 _ _) l1 _ _ (Rd.own 0 rfl)) rfl rfl (fun x _ => ?_)
      (refine r_mv rfl rfl <| r_ex rfl rfl rfl <| r_ex rfl rfl rfl <| r_as rfl rfl <| r_as rfl rfl <| r_nx h36 <| c_sq fun k40 h40 => c_rg <| r_mv rfl rfl ?_; rotate_left)
      refine WX.call (m1 := []) (m2 := [OwnR x (compR (mapAll (lowsP s s.size))), OwnR p (lowsP s s.size), OwnR q (capsP s s.size)]) rfl rfl rfl (fold_ok _ _ (capsP s s.size) (by omega) (caps_r32 _ _) l2 _ _ (Rd.own 2 rfl)) rfl rfl (fun y _ => ?_)
      (refine r_mv rfl rfl <| r_ex rfl rfl rfl <| r_ex rfl rfl rfl <| r_as rfl rfl <| r_as rfl rfl <| r_nx h40 <| c_sq fun k44 h44 => c_rg <| r_mv rfl rfl <| r_mv rfl rfl <| r_mv rfl rfl <| r_bk (.bool true) rfl rfl (fun _ => by kernel_rfl) rfl <| r_pT rfl rfl rfl <| r_mv rfl rfl <| r_mv rfl rfl <| r_bk (.bool true) rfl rfl (fun _ => by kernel_rfl) rfl <| r_pT rfl rfl rfl <| r_mv rfl rfl <| r_mv rfl rfl <| r_mv rfl rfl ?_; rotate_left)
      refine WX.pure rfl rfl (same_eq (compR (mapAll (lowsP s s.size))) (compR (mapAll (capsP s s.size))) l3 (by omega) _ _ (Rd.own 1 rfl) (Rd.own 0 rfl)) rfl rfl ?_
      (refine r_pT rfl rfl rfl <| r_mv rfl rfl <| r_mv rfl rfl <| r_ls Try.underlying23 rfl rfl <| r_mv rfl rfl <| r_ls Try.underlying23 rfl rfl <| r_eqT rfl rfl rfl (by omega) <| r_pT rfl rfl rfl <| r_as rfl rfl <| r_nx h44 <| c_rt ?_; rotate_left)
      exact WE.ret1 () rfl rfl rfl trivial Mem.drop
  · (refine c_sq fun k5 h5 => c_rg <| r_as rfl rfl <| r_nx h5 <| c_sq fun k7 h7 => c_rg ?_; rotate_left)
    refine WX.pure rfl rfl (awake5_spec _ _) rfl rfl ?_
    (refine r_as rfl rfl <| r_nx h7 <| c_sq fun k9 h9 => c_sq fun k11 h11 => c_rg <| r_mv rfl rfl <| r_lS Try.underlying9 rfl rfl <| r_gtT rfl rfl rfl (by omega) <| r_nx h11 <| c_cT rfl <| c_sq fun k13 h13 => c_rg <| r_mv rfl rfl <| r_as rfl rfl <| r_nx h13 <| c_rt <| WE.then_r ?_; rotate_left)
    exact WE.ret1 () rfl rfl rfl trivial Mem.drop
end Go.Proofs.Ytbcceecocjpnpaa
