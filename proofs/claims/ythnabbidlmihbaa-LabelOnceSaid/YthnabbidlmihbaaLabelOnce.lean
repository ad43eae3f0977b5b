/- The law LabelOnce: the walk. -/
import Derived.Test.YthnabbidlmihbaaAwake6
import Derived.Test.YthnabbidlmihbaaDecAsc
import Derived.Test.YthnabbidlmihbaaLawOnce
set_option linter.unusedVariables false
set_option linter.unusedSimpArgs false
namespace Go.Proofs.Ythnabbidlmihbaa
open Go.RowKit Go.Gp

set_option maxRecDepth 100000 in
theorem labelOnce_spec (A : Option Addr) (c : Nat) (l : List Int) (hl : ∀ n ∈ l, -2147483648 ≤ n ∧ n ≤ 2147483647) (w0 : World) (m0 : List Res) (hA : Rd w0 m0 A (runes l)) :
    PureC Try.prog 3 [.slice A l.length c] w0 m0 (.bool true) := by
  refine Ct.of Try.func3 rfl (by kernel_rfl) rfl ?_
  by_cases hn : l.length ≤ 60
  · have hF := foldP_len l
    have honce := @all_once l hl (by omega)
    (refine c_sq fun k11 h11 => c_rg <| r_as rfl rfl <| r_nx h11 <| c_sq fun k13 h13 => c_rg ?_; rotate_left)
    refine WX.pure rfl rfl (awake6_spec _ _) rfl rfl ?_
    (refine r_as rfl rfl <| r_nx h13 <| c_sq fun k15 h15 => c_sq fun k17 h17 => c_rg <| r_mv rfl rfl <| r_ls Try.underlying22 rfl rfl <| r_gtF rfl rfl rfl (by omega) <| r_nx h17 <| c_cF rfl <| c_sk <| WE.then_n h15 <| c_sq fun k19 h19 => c_rg <| r_mv rfl rfl ?_; rotate_left)
    refine WX.call (m1 := []) (m2 := _) rfl rfl rfl (all_spec A c l (by omega) (R32.of_mem hl) (fun _ => short_ok (by omega)) _ _ (hA.app _)) rfl rfl (fun L _ => ?_)
    generalize allP l = r at honce ⊢
    cases r with
    | error n =>
      simp only [allV, allM]
      obtain ⟨T, v, he⟩ := ecv_form L n
      rw [he]
      (refine r_mv rfl rfl <| r_ex rfl rfl rfl <| r_ex rfl rfl rfl <| r_as rfl rfl <| r_as rfl rfl <| r_nx h19 <| c_sq fun k30 h30 => c_sq fun k32 h32 => c_rg <| r_mv rfl rfl <| r_bk (.bool true) rfl rfl (fun _ => by kernel_rfl) rfl <| r_nx h32 <| c_cT rfl <| c_sq fun k34 h34 => c_rg <| r_mv rfl rfl <| r_mv rfl rfl <| r_mv rfl rfl ?_; rotate_left)
      refine r_seq rfl rfl (fun _ => rfl) rfl ?_
      rw [decide_eq_true rfl]
      (refine r_pT rfl rfl rfl <| r_as rfl rfl <| r_nx h34 <| c_rt <| WE.then_r ?_; rotate_left)
      exact WE.ret1 () rfl rfl rfl trivial Mem.drop
    | ok s =>
      obtain ⟨h1, h2, h3, h4, h5, h6⟩ := honce rfl
      simp only [allV, allM]
      (refine r_mv rfl rfl <| r_ex rfl rfl rfl <| r_ex rfl rfl rfl <| r_as rfl rfl <| r_as rfl rfl <| r_nx h19 <| c_sq fun k33 h33 => c_sq fun k35 h35 => c_rg <| r_mv rfl rfl <| r_bk (.bool false) rfl rfl (fun _ => by kernel_rfl) rfl <| r_nx h35 <| c_cF rfl <| c_sk <| WE.then_n h33 <| c_sq fun k37 h37 => c_sq fun k39 h39 => c_rg <| r_as rfl rfl <| r_nx h39 <| c_bl ?_; rotate_left)
      refine WC.loop (α := Nat) (fun i => [(3, .bool true), (4, .string s), (6, .int .i64 i)]) (fun _ => []) (fun i => i ≤ s.size) (fun i => s.size - i) 0 (by omega) ⟨rfl, rfl, rfl, trivial⟩ Mem.drop ?_
      intro i hi
      by_cases hlt : i < s.size
      · have hb := byte_at s hlt
        have hm : s.data.toList.getD i 0 ∈ s.data.toList := by
          have h' : i < s.data.toList.length := by simpa using hlt
          rw [List.getD_eq_getElem?_getD, List.getElem?_eq_getElem h']
          exact List.getElem_mem _
        have hlw := h1 _ hm
        generalize s.data.toList.getD i 0 = b at hb hlw
        (refine c_sq fun k49 h49 => c_sq fun k51 h51 => c_rg <| r_mv rfl rfl <| r_mv rfl rfl <| r_lS Try.underlying9 rfl rfl <| r_ltT rfl rfl rfl (by omega) <| r_nx h51 <| c_cT rfl <| c_sk <| WE.then_n h49 <| c_sq fun k53 h53 => c_bl <| c_sq fun k55 h55 => c_rg <| r_mv rfl rfl <| r_mv rfl rfl ?_; rotate_left)
        refine r_iS (v := b) Try.underlying9 rfl rfl rfl (by omega) (by simpa using hb) ?_
        by_cases h65 : 65 ≤ b.toNat
        · (refine r_geF rfl rfl rfl (by omega) <| r_mv rfl rfl <| r_mv rfl rfl <| r_mv rfl rfl ?_; rotate_left)
          refine r_iS (v := b) Try.underlying9 rfl rfl rfl (by omega) (by simpa using hb) ?_
          (refine r_geT rfl rfl rfl (by omega) <| r_mv rfl rfl <| r_mv rfl rfl <| r_mv rfl rfl ?_; rotate_left)
          refine r_iS (v := b) Try.underlying9 rfl rfl rfl (by omega) (by simpa using hb) ?_
          (refine r_leF rfl rfl rfl (by omega) <| r_pT rfl rfl rfl <| r_pF rfl rfl rfl <| r_nx h55 <| c_cF rfl <| c_sk <| WE.blk_n <| WE.then_n h53 <| c_rg <| r_mv rfl rfl <| r_ad rfl rfl rfl (wadd64 (by omega)) <| r_as rfl rfl <| r_nl ?_; rotate_left)
          exact WE.back (i + 1) (by omega) (by omega) ⟨rfl, rfl, rfl, trivial⟩ Mem.keep
        · (refine r_geF rfl rfl rfl (by omega) <| r_mv rfl rfl <| r_mv rfl rfl <| r_mv rfl rfl ?_; rotate_left)
          refine r_iS (v := b) Try.underlying9 rfl rfl rfl (by omega) (by simpa using hb) ?_
          (refine r_geF rfl rfl rfl (by omega) <| r_mv rfl rfl <| r_sk rfl rfl <| r_sk rfl rfl <| r_sk rfl rfl <| r_sk rfl rfl <| r_pF rfl rfl rfl <| r_pF rfl rfl rfl <| r_nx h55 <| c_cF rfl <| c_sk <| WE.blk_n <| WE.then_n h53 <| c_rg <| r_mv rfl rfl <| r_ad rfl rfl rfl (wadd64 (by omega)) <| r_as rfl rfl <| r_nl ?_; rotate_left)
          exact WE.back (i + 1) (by omega) (by omega) ⟨rfl, rfl, rfl, trivial⟩ Mem.keep
      · have hal := asc_length s
        (refine c_sq fun k45 h45 => c_sq fun k47 h47 => c_rg <| r_mv rfl rfl <| r_mv rfl rfl <| r_lS Try.underlying9 rfl rfl <| r_ltF rfl rfl rfl (by omega) <| r_nx h47 <| c_cF rfl <| c_ex <| WE.then_x <| WE.then_x <| WE.blk_x <| WE.then_n h37 <| c_sq fun k49 h49 => c_rg <| r_mv rfl rfl ?_; rotate_left)
        refine WX.call (m1 := []) (m2 := _) rfl rfl rfl (rdecA_spec s (by omega) (fun b hb => (h1 b hb).1) _ _) rfl rfl (fun p _ => ?_)
        refine WX.call (m1 := []) (m2 := _) rfl rfl rfl (all_spec p.1 p.2 (asc s) (by omega) (R32.of_mem (fun x hx => by
          unfold asc at hx
          obtain ⟨b, hb, rfl⟩ := List.mem_map.1 hx
          have := b.toNat_lt
          omega)) (fun _ => by rw [h4]; exact ⟨by omega, h6⟩) _ _ (Rd.own 0 rfl)) rfl rfl (fun L2 _ => ?_)
        rw [h3]
        simp only [allV, allM]
        (refine r_mv rfl rfl <| r_ex rfl rfl rfl <| r_ex rfl rfl rfl <| r_as rfl rfl <| r_as rfl rfl <| r_nx h49 <| c_sq fun k55 h55 => c_rg <| r_mv rfl rfl <| r_mv rfl rfl <| r_mv rfl rfl <| r_bk (.bool true) rfl rfl (fun _ => by kernel_rfl) rfl <| r_pT rfl rfl rfl <| r_mv rfl rfl <| r_mv rfl rfl <| r_mv rfl rfl ?_; rotate_left)
        refine r_seq rfl rfl (fun _ => rfl) rfl ?_
        rw [decide_eq_true rfl]
        (refine r_pT rfl rfl rfl <| r_as rfl rfl <| r_nx h55 <| c_rt ?_; rotate_left)
        exact WE.ret1 () rfl rfl rfl trivial Mem.drop
  · (refine c_sq fun k9 h9 => c_rg <| r_as rfl rfl <| r_nx h9 <| c_sq fun k11 h11 => c_rg ?_; rotate_left)
    refine WX.pure rfl rfl (awake6_spec _ _) rfl rfl ?_
    (refine r_as rfl rfl <| r_nx h11 <| c_sq fun k13 h13 => c_sq fun k15 h15 => c_rg <| r_mv rfl rfl <| r_ls Try.underlying22 rfl rfl <| r_gtT rfl rfl rfl (by omega) <| r_nx h15 <| c_cT rfl <| c_sq fun k17 h17 => c_rg <| r_mv rfl rfl <| r_as rfl rfl <| r_nx h17 <| c_rt <| WE.then_r ?_; rotate_left)
    exact WE.ret1 () rfl rfl rfl trivial Mem.drop
end Go.Proofs.Ythnabbidlmihbaa
