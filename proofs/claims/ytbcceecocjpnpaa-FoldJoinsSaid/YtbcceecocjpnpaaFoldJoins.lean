/- The law FoldJoins: the walk. -/
import Derived.Test.YtbcceecocjpnpaaFoldOnce
namespace Go.Proofs.Ytbcceecocjpnpaa
open Go.RowKit Go.Gp

theorem mem_app {a b : List Int} (ha : ∀ n ∈ a, -2147483648 ≤ n ∧ n ≤ 2147483647) (hb : ∀ n ∈ b, -2147483648 ≤ n ∧ n ≤ 2147483647) : ∀ n ∈ a ++ b, -2147483648 ≤ n ∧ n ≤ 2147483647 := fun n hn => by
  rcases List.mem_append.1 hn with h | h
  · exact ha n h
  · exact hb n h
set_option maxRecDepth 100000 in
theorem foldJoins_spec (A B : Option Addr) (c d : Nat) (a b : List Int) (ha : ∀ n ∈ a, -2147483648 ≤ n ∧ n ≤ 2147483647) (hb : ∀ n ∈ b, -2147483648 ≤ n ∧ n ≤ 2147483647) (w0 : World) (m0 : List Res) (hA : Rd w0 m0 A (runes a)) (hB : Rd w0 m0 B (runes b)) :
    PureC Try.prog 6 [.slice A a.length c, .slice B b.length d] w0 m0 (.bool true) := by
  refine Ct.of Try.func6 rfl (by kernel_rfl) rfl ?_
  by_cases hna : a.length ≤ 100
  · by_cases hnb : b.length ≤ 100
    · have h1 := mapAll_length a
      have h2 := mapAll_length b
      have h3 := compR_length (mapAll a)
      have h4 := compR_length (mapAll b)
      (refine c_sq fun k19 h19 => c_rg <| r_as rfl rfl <| r_nx h19 <| c_sq fun k21 h21 => c_rg ?_; rotate_left)
      refine WX.pure rfl rfl (awake5_spec _ _) rfl rfl ?_
      (refine r_as rfl rfl <| r_nx h21 <| c_sq fun k23 h23 => c_sq fun k25 h25 => c_rg <| r_mv rfl rfl <| r_ls Try.underlying23 rfl rfl <| r_gtF rfl rfl rfl (by omega) <| r_mv rfl rfl <| r_mv rfl rfl <| r_ls Try.underlying23 rfl rfl <| r_gtF rfl rfl rfl (by omega) <| r_pF rfl rfl rfl <| r_nx h25 <| c_cF rfl <| c_sk <| WE.then_n h23 <| c_sq fun k27 h27 => c_rg <| r_mv rfl rfl ?_; rotate_left)
      rcases Bool.eq_false_or_eq_true (okAll a) with hoa | hoa
      · refine WX.call (m1 := []) (m2 := []) rfl rfl rfl (fold_ok A c a (by omega) (R32.of_mem ha) hoa _ _ (hA.app _)) rfl rfl (fun p _ => ?_)
        (refine r_mv rfl rfl <| r_ex rfl rfl rfl <| r_ex rfl rfl rfl <| r_as rfl rfl <| r_as rfl rfl <| r_nx h27 <| c_sq fun k32 h32 => c_rg <| r_mv rfl rfl ?_; rotate_left)
        rcases Bool.eq_false_or_eq_true (okAll b) with hob | hob
        · refine WX.call (m1 := []) (m2 := [OwnR p (compR (mapAll a))]) rfl rfl rfl (fold_ok B d b (by omega) (R32.of_mem hb) hob _ _ (hB.app _)) rfl rfl (fun q _ => ?_)
          (refine r_mv rfl rfl <| r_ex rfl rfl rfl <| r_ex rfl rfl rfl <| r_as rfl rfl <| r_as rfl rfl <| r_nx h32 <| c_sq fun k37 h37 => c_rg <| r_bo Try.underlying23 rfl (fun _ => by kernel_rfl) rfl rfl rfl (fun _ => ?_); refine r_mv rfl rfl ?_; rotate_left)
          refine r_am (xs := []) (ys := a) 0 (z := .int .i32 0) (by_ := 4) (f := (.int .i32 ·)) Try.underlying23 (by kernel_rfl) rfl rfl rfl rfl (hA.app _) rfl (fun _ => rfl) (by simp; omega) rfl (fun r1 _ => ?_)
          rw [List.nil_append]
          (refine r_mv rfl rfl ?_; rotate_left)
          refine r_am (ys := b) 0 (z := .int .i32 0) (by_ := 4) (f := (.int .i32 ·)) Try.underlying23 (by kernel_rfl) rfl rfl rfl rfl (hB.app _) rfl (fun _ => rfl) (by omega) rfl (fun r _ => ?_)
          (rotate_left)
          refine WX.call (m1 := []) (m2 := [OwnR r (a ++ b), OwnR q (compR (mapAll b)), OwnR p (compR (mapAll a))]) rfl rfl rfl (fold_ok _ _ (a ++ b) (by simp; omega) (R32.of_mem (mem_app ha hb)) (by rw [okAll_append, hoa, hob]; rfl) _ _ (Rd.own 0 rfl)) rfl rfl (fun z _ => ?_)
          (refine r_mv rfl rfl <| r_ex rfl rfl rfl <| r_ex rfl rfl rfl <| r_as rfl rfl <| r_as rfl rfl <| r_nx h37 <| c_sq fun k46 h46 => c_sq fun k48 h48 => c_rg <| r_mv rfl rfl <| r_bk (.bool false) rfl rfl (fun _ => by kernel_rfl) rfl <| r_mv rfl rfl <| r_mv rfl rfl <| r_bk (.bool false) rfl rfl (fun _ => by kernel_rfl) rfl <| r_pF rfl rfl rfl <| r_nx h48 <| c_cF rfl <| c_sk <| WE.then_n h46 <| c_sq fun k50 h50 => c_rg <| r_mv rfl rfl <| r_mv rfl rfl <| r_mv rfl rfl <| r_bk (.bool true) rfl rfl (fun _ => by kernel_rfl) rfl <| r_pT rfl rfl rfl <| r_mv rfl rfl <| r_mv rfl rfl <| r_bo Try.underlying23 rfl (fun _ => by kernel_rfl) rfl rfl rfl (fun _ => ?_); refine r_mv rfl rfl ?_; rotate_left)
          refine r_am (xs := []) (ys := compR (mapAll a)) 0 (z := .int .i32 0) (by_ := 4) (f := (.int .i32 ·)) Try.underlying23 (by kernel_rfl) rfl rfl rfl rfl (Rd.own 4 rfl) rfl (fun _ => rfl) (by simp; omega) rfl (fun s1 _ => ?_)
          rw [List.nil_append]
          (refine r_mv rfl rfl ?_; rotate_left)
          refine r_am (ys := compR (mapAll b)) 0 (z := .int .i32 0) (by_ := 4) (f := (.int .i32 ·)) Try.underlying23 (by kernel_rfl) rfl rfl rfl rfl (Rd.own 3 rfl) rfl (fun _ => rfl) (by omega) rfl (fun s2 _ => ?_)
          (rotate_left)
          refine WX.call (m1 := []) (m2 := _) rfl rfl rfl (compose_spec _ _ (compR (mapAll a) ++ compR (mapAll b)) (by simp; omega) _ _ (Rd.own 0 rfl)) rfl rfl (fun t _ => ?_)
          (rotate_left)
          refine WX.pure rfl rfl (same_eq (compR (mapAll (a ++ b))) (compR (compR (mapAll a) ++ compR (mapAll b))) (fold_joins a b).symm (by have q1 := compR_length (mapAll (a ++ b)); have q2 := mapAll_length (a ++ b); simp at q2; omega) _ _ (Rd.own 2 rfl) (Rd.own 0 rfl)) rfl rfl ?_
          (refine r_pT rfl rfl rfl <| r_as rfl rfl <| r_nx h50 <| c_rt ?_; rotate_left)
          exact WE.ret1 () rfl rfl rfl trivial Mem.drop
        · refine WX.call (m1 := []) (m2 := [OwnR p (compR (mapAll a))]) rfl rfl rfl (fold_no B d b (by omega) (R32.of_mem hb) hob _ _ (hB.app _)) rfl rfl (fun q _ => ?_)
          simp only [ecv]
          (refine r_mv rfl rfl <| r_ex rfl rfl rfl <| r_ex rfl rfl rfl <| r_as rfl rfl <| r_as rfl rfl <| r_nx h32 <| c_sq fun k37 h37 => c_rg <| r_bo Try.underlying23 rfl (fun _ => by kernel_rfl) rfl rfl rfl (fun _ => ?_); refine r_mv rfl rfl ?_; rotate_left)
          refine r_am (xs := []) (ys := a) 0 (z := .int .i32 0) (by_ := 4) (f := (.int .i32 ·)) Try.underlying23 (by kernel_rfl) rfl rfl rfl rfl (hA.app _) rfl (fun _ => rfl) (by simp; omega) rfl (fun r1 _ => ?_)
          rw [List.nil_append]
          (refine r_mv rfl rfl ?_; rotate_left)
          refine r_am (ys := b) 0 (z := .int .i32 0) (by_ := 4) (f := (.int .i32 ·)) Try.underlying23 (by kernel_rfl) rfl rfl rfl rfl (hB.app _) rfl (fun _ => rfl) (by omega) rfl (fun r _ => ?_)
          (rotate_left)
          refine WX.call (m1 := []) (m2 := [OwnR r (a ++ b), .blk q [.string sFold, ecv [] 2] 50, OwnR p (compR (mapAll a))]) rfl rfl rfl (fold_no _ _ (a ++ b) (by simp; omega) (R32.of_mem (mem_app ha hb)) (by rw [okAll_append, hoa, hob]; simp) _ _ (Rd.own 0 rfl)) rfl rfl (fun z _ => ?_)
          simp only [ecv]
          (refine r_mv rfl rfl <| r_ex rfl rfl rfl <| r_ex rfl rfl rfl <| r_as rfl rfl <| r_as rfl rfl <| r_nx h37 <| c_sq fun k46 h46 => c_sq fun k48 h48 => c_rg <| r_mv rfl rfl <| r_bk (.bool false) rfl rfl (fun _ => by kernel_rfl) rfl <| r_mv rfl rfl <| r_mv rfl rfl <| r_bk (.bool true) rfl rfl (fun _ => by kernel_rfl) rfl <| r_pF rfl rfl rfl <| r_nx h48 <| c_cT rfl <| c_sq fun k50 h50 => c_rg <| r_mv rfl rfl <| r_mv rfl rfl <| r_mv rfl rfl <| r_bk (.bool true) rfl rfl (fun _ => by kernel_rfl) rfl <| r_pT rfl rfl rfl <| r_mv rfl rfl <| r_mv rfl rfl <| r_ls Try.underlying23 rfl rfl <| r_eqT rfl rfl rfl (by omega) <| r_pT rfl rfl rfl <| r_as rfl rfl <| r_nx h50 <| c_rt <| WE.then_r ?_; rotate_left)
          exact WE.ret1 () rfl rfl rfl trivial Mem.drop
      · refine WX.call (m1 := []) (m2 := []) rfl rfl rfl (fold_no A c a (by omega) (R32.of_mem ha) hoa _ _ (hA.app _)) rfl rfl (fun p _ => ?_)
        simp only [ecv]
        (refine r_mv rfl rfl <| r_ex rfl rfl rfl <| r_ex rfl rfl rfl <| r_as rfl rfl <| r_as rfl rfl <| r_nx h27 <| c_sq fun k32 h32 => c_rg <| r_mv rfl rfl ?_; rotate_left)
        rcases Bool.eq_false_or_eq_true (okAll b) with hob | hob
        · refine WX.call (m1 := []) (m2 := _) rfl rfl rfl (fold_ok B d b (by omega) (R32.of_mem hb) hob _ _ (hB.app _)) rfl rfl (fun q _ => ?_)
          (refine r_mv rfl rfl <| r_ex rfl rfl rfl <| r_ex rfl rfl rfl <| r_as rfl rfl <| r_as rfl rfl <| r_nx h32 <| c_sq fun k37 h37 => c_rg <| r_bo Try.underlying23 rfl (fun _ => by kernel_rfl) rfl rfl rfl (fun _ => ?_); refine r_mv rfl rfl ?_; rotate_left)
          refine r_am (xs := []) (ys := a) 0 (z := .int .i32 0) (by_ := 4) (f := (.int .i32 ·)) Try.underlying23 (by kernel_rfl) rfl rfl rfl rfl (hA.app _) rfl (fun _ => rfl) (by simp; omega) rfl (fun r1 _ => ?_)
          rw [List.nil_append]
          (refine r_mv rfl rfl ?_; rotate_left)
          refine r_am (ys := b) 0 (z := .int .i32 0) (by_ := 4) (f := (.int .i32 ·)) Try.underlying23 (by kernel_rfl) rfl rfl rfl rfl (hB.app _) rfl (fun _ => rfl) (by omega) rfl (fun r _ => ?_)
          (rotate_left)
          refine WX.call (m1 := []) (m2 := _) rfl rfl rfl (fold_no _ _ (a ++ b) (by simp; omega) (R32.of_mem (mem_app ha hb)) (by rw [okAll_append, hoa]; rfl) _ _ (Rd.own 0 rfl)) rfl rfl (fun z _ => ?_)
          simp only [ecv]
          (refine r_mv rfl rfl <| r_ex rfl rfl rfl <| r_ex rfl rfl rfl <| r_as rfl rfl <| r_as rfl rfl <| r_nx h37 <| c_sq fun k46 h46 => c_sq fun k48 h48 => c_rg <| r_mv rfl rfl <| r_bk (.bool true) rfl rfl (fun _ => by kernel_rfl) rfl <| r_mv rfl rfl <| r_sk rfl rfl <| r_sk rfl rfl <| r_pT rfl rfl rfl <| r_nx h48 <| c_cT rfl <| c_sq fun k50 h50 => c_rg <| r_mv rfl rfl <| r_mv rfl rfl <| r_mv rfl rfl <| r_bk (.bool true) rfl rfl (fun _ => by kernel_rfl) rfl <| r_pT rfl rfl rfl <| r_mv rfl rfl <| r_mv rfl rfl <| r_ls Try.underlying23 rfl rfl <| r_eqT rfl rfl rfl (by omega) <| r_pT rfl rfl rfl <| r_as rfl rfl <| r_nx h50 <| c_rt <| WE.then_r ?_; rotate_left)
          exact WE.ret1 () rfl rfl rfl trivial Mem.drop
        · refine WX.call (m1 := []) (m2 := _) rfl rfl rfl (fold_no B d b (by omega) (R32.of_mem hb) hob _ _ (hB.app _)) rfl rfl (fun q _ => ?_)
          simp only [ecv]
          (refine r_mv rfl rfl <| r_ex rfl rfl rfl <| r_ex rfl rfl rfl <| r_as rfl rfl <| r_as rfl rfl <| r_nx h32 <| c_sq fun k37 h37 => c_rg <| r_bo Try.underlying23 rfl (fun _ => by kernel_rfl) rfl rfl rfl (fun _ => ?_); refine r_mv rfl rfl ?_; rotate_left)
          refine r_am (xs := []) (ys := a) 0 (z := .int .i32 0) (by_ := 4) (f := (.int .i32 ·)) Try.underlying23 (by kernel_rfl) rfl rfl rfl rfl (hA.app _) rfl (fun _ => rfl) (by simp; omega) rfl (fun r1 _ => ?_)
          rw [List.nil_append]
          (refine r_mv rfl rfl ?_; rotate_left)
          refine r_am (ys := b) 0 (z := .int .i32 0) (by_ := 4) (f := (.int .i32 ·)) Try.underlying23 (by kernel_rfl) rfl rfl rfl rfl (hB.app _) rfl (fun _ => rfl) (by omega) rfl (fun r _ => ?_)
          (rotate_left)
          refine WX.call (m1 := []) (m2 := _) rfl rfl rfl (fold_no _ _ (a ++ b) (by simp; omega) (R32.of_mem (mem_app ha hb)) (by rw [okAll_append, hoa]; rfl) _ _ (Rd.own 0 rfl)) rfl rfl (fun z _ => ?_)
          simp only [ecv]
          (refine r_mv rfl rfl <| r_ex rfl rfl rfl <| r_ex rfl rfl rfl <| r_as rfl rfl <| r_as rfl rfl <| r_nx h37 <| c_sq fun k46 h46 => c_sq fun k48 h48 => c_rg <| r_mv rfl rfl <| r_bk (.bool true) rfl rfl (fun _ => by kernel_rfl) rfl <| r_mv rfl rfl <| r_sk rfl rfl <| r_sk rfl rfl <| r_pT rfl rfl rfl <| r_nx h48 <| c_cT rfl <| c_sq fun k50 h50 => c_rg <| r_mv rfl rfl <| r_mv rfl rfl <| r_mv rfl rfl <| r_bk (.bool true) rfl rfl (fun _ => by kernel_rfl) rfl <| r_pT rfl rfl rfl <| r_mv rfl rfl <| r_mv rfl rfl <| r_ls Try.underlying23 rfl rfl <| r_eqT rfl rfl rfl (by omega) <| r_pT rfl rfl rfl <| r_as rfl rfl <| r_nx h50 <| c_rt <| WE.then_r ?_; rotate_left)
          exact WE.ret1 () rfl rfl rfl trivial Mem.drop
    · (refine c_sq fun k15 h15 => c_rg <| r_as rfl rfl <| r_nx h15 <| c_sq fun k17 h17 => c_rg ?_; rotate_left)
      refine WX.pure rfl rfl (awake5_spec _ _) rfl rfl ?_
      (refine r_as rfl rfl <| r_nx h17 <| c_sq fun k19 h19 => c_sq fun k21 h21 => c_rg <| r_mv rfl rfl <| r_ls Try.underlying23 rfl rfl <| r_gtF rfl rfl rfl (by omega) <| r_mv rfl rfl <| r_mv rfl rfl <| r_ls Try.underlying23 rfl rfl <| r_gtT rfl rfl rfl (by omega) <| r_pF rfl rfl rfl <| r_nx h21 <| c_cT rfl <| c_sq fun k23 h23 => c_rg <| r_mv rfl rfl <| r_as rfl rfl <| r_nx h23 <| c_rt <| WE.then_r ?_; rotate_left)
      exact WE.ret1 () rfl rfl rfl trivial Mem.drop
  · (refine c_sq fun k14 h14 => c_rg <| r_as rfl rfl <| r_nx h14 <| c_sq fun k16 h16 => c_rg ?_; rotate_left)
    refine WX.pure rfl rfl (awake5_spec _ _) rfl rfl ?_
    (refine r_as rfl rfl <| r_nx h16 <| c_sq fun k18 h18 => c_sq fun k20 h20 => c_rg <| r_mv rfl rfl <| r_ls Try.underlying23 rfl rfl <| r_gtT rfl rfl rfl (by omega) <| r_mv rfl rfl <| r_sk rfl rfl <| r_sk rfl rfl <| r_sk rfl rfl <| r_pT rfl rfl rfl <| r_nx h20 <| c_cT rfl <| c_sq fun k22 h22 => c_rg <| r_mv rfl rfl <| r_as rfl rfl <| r_nx h22 <| c_rt <| WE.then_r ?_; rotate_left)
    exact WE.ret1 () rfl rfl rfl trivial Mem.drop
end Go.Proofs.Ytbcceecocjpnpaa
