/- slices.Insert of one code point: the walk. -/
import Derived.Test.YthnabbidlmihbaaRowOps
import Derived.Test.YthnabbidlmihbaaLeaf
namespace Go.Proofs.Ythnabbidlmihbaa
open Go.RowKit Go.Gp

def insL (l : List Int) (i : Nat) (c : Int) : List Int := l.take i ++ c :: l.drop i
theorem insL_length (l : List Int) (i : Nat) (c : Int) (h : i ≤ l.length) : (insL l i c).length = l.length + 1 := by simp [insL]; omega
theorem elem1 : Try.prog.underlying 22 = some (.slice (Try.prog.elem 22)) := by kernel_rfl
theorem size1 (w : World) : (sizeOf (Try.prog.elem 22)).run Try.prog w = .ok 1 w := by kernel_rfl
theorem x_over (vb gg o n c : Nat) (hne : vb ≠ gg) (w : World) (tA tB : TypeId) (kA kB : Nat) (hsa : w.shape? vb = some (tA, kA)) (hsb : w.shape? gg = some (tB, kB)) (hk : kB ≠ 0) (hf : ∀ j, w.frozen? ⟨vb, j, none⟩ = false) :
    (callFunc 57 #[.slice (some ⟨vb, 0, none⟩) 1 1, .slice (some ⟨gg, o, none⟩) n c]).run Try.prog w = .ok (.value (.bool false)) w := by
  rw [run_callFunc_extern (e := Extern.SlicesOverlaps.overlaps #[22, 22] #[4]) Try.func57 (by kernel_rfl) (by kernel_rfl) (by kernel_rfl) (by kernel_rfl)]
  rw [Go.Lib.run_overlaps_apart w 22 4 21 Try.underlying22 1 (fun w => by kernel_rfl) ⟨vb, 0, none⟩ ⟨gg, o, none⟩ 1 1 n c hne tA tB kA kB hsa hsb hk (hf 0) (hf kA)]
  rfl
set_option maxRecDepth 100000 in
theorem insert_spec (p : Option Addr × Nat) (l : List Int) (i : Nat) (c : Int) (vb : Nat) (hn : l.length ≤ 1000000) (hi : i ≤ l.length) (w0 : World) (m0 : List Res) :
    Ct (α := Option Addr × Nat) Try.prog 42 [.slice p.1 l.length p.2, .int .i64 i, .slice (some ⟨vb, 0, none⟩) 1 1] w0 [OwnR p l, .own (some ⟨vb, 0, none⟩) 1 1 [.int .i32 c] 21 1] m0 (fun _ => True) (fun q => SlR q (insL l i c)) (fun q => [OwnR q (insL l i c)]) := by
  obtain ⟨A, cp⟩ := p
  dsimp only
  refine Ct.of Try.func42 rfl (by kernel_rfl) rfl ?_
  by_cases hin : i = l.length
  · subst hin
    have e0 : insL l l.length c = l ++ [c] := by rw [insL, List.take_length, List.drop_length]
    (refine c_sq fun k14 h14 => c_rg <| r_as rfl rfl <| r_nx h14 <| c_sq fun k16 h16 => c_rg <| r_mv rfl rfl <| r_mv rfl rfl ?_; rotate_left)
    refine r_sf elem1 size1 rfl rfl (by omega) (by omega) rfl ?_
    (refine r_nx h16 <| c_sq fun k18 h18 => c_rg <| r_mv rfl rfl <| r_ls Try.underlying22 rfl rfl <| r_as rfl rfl <| r_nx h18 <| c_sq fun k20 h20 => c_sq fun k22 h22 => c_rg <| r_mv rfl rfl <| r_eqF rfl rfl rfl (by omega) <| r_nx h22 <| c_cF rfl <| c_sk <| WE.then_n h20 <| c_sq fun k24 h24 => c_rg <| r_mv rfl rfl <| r_ls Try.underlying22 rfl rfl <| r_as rfl rfl <| r_nx h24 <| c_sq fun k26 h26 => c_sq fun k28 h28 => c_rg <| r_mv rfl rfl <| r_mv rfl rfl <| r_eqT rfl rfl rfl (by omega) <| r_nx h28 <| c_cT rfl <| c_sq fun k30 h30 => c_rg <| r_mv rfl rfl <| r_mv rfl rfl ?_; rotate_left)
    refine r_am (ys := [c]) 0 (z := .int .i32 0) (by_ := 4) (f := (.int .i32 ·)) Try.underlying22 (by kernel_rfl) rfl rfl rfl rfl (Rd.own 1 rfl) rfl (fun _ => rfl) (by omega) rfl (fun q _ => ?_)
    (refine r_as rfl rfl <| r_nx h30 <| c_rt <| WE.then_r ?_; rotate_left)
    exact WE.ret1 q rfl rfl (by rw [e0]; rfl) trivial (by rw [e0]; exact Mem.pick [0] (by decide) rfl)
  · (refine c_sq fun k13 h13 => c_rg ?_)
    refine WX.open 0 rfl (by omega) (fun gg cur hA hcl hct hnc hcm => ?_)
    subst hA
    refine WX.open 1 rfl (by omega) (fun g2 cv hv hcl2 hct2 _ _ => ?_)
    obtain rfl : vb = g2 := by injection hv with h1; injection h1
    have hcv : cv = [.int .i32 c] := by rw [← hct2, List.take_of_length_le (by omega)]
    subst hcv
    dsimp only at hcl hnc hcm
    have hP : cur.take i = runes (l.take i) := by
      have : (cur.take l.length).take i = (runes l).take i := by rw [hct]
      rw [List.take_take, Nat.min_eq_left (by omega)] at this
      rw [this, runes, ← List.map_take]
    have hD : (runes (l.drop i)).length = l.length - i := by simp
    have hcur : ∀ j v, (runes (l.drop i))[j]? = some v → cur[i + j]? = some v := by
      intro j v h
      have h2 : (runes l)[i + j]? = some v := by
        rw [runes, List.map_drop, List.getElem?_drop] at h
        exact h
      rw [← hct, List.getElem?_take] at h2
      split at h2
      · exact h2
      · cases h2
    have hins : runes (l.take i) ++ .int .i32 c :: runes (l.drop i) = runes (insL l i c) := by simp [insL]
    have hone : ∀ v ∈ runes (l.drop i), v.oneCell' = true := by
      intro v hv
      obtain ⟨a, _, rfl⟩ := List.mem_map.1 hv
      rfl
    have hc1 : ∀ v ∈ ([.int .i32 c] : List Value), v.oneCell' = true := by
      intro v hv
      rw [List.mem_singleton] at hv
      subst hv
      rfl
    have hlenI := insL_length l i c hi
    (refine r_as rfl rfl <| r_nx h13 <| c_sq fun k40 h40 => c_rg <| r_mv rfl rfl <| r_mv rfl rfl ?_; rotate_left)
    refine r_sf elem1 size1 rfl rfl (by omega) (by omega) rfl ?_
    by_cases hcap : l.length + 1 ≤ cp
    · (refine r_nx h40 <| c_sq fun k43 h43 => c_rg <| r_mv rfl rfl <| r_ls Try.underlying22 rfl rfl <| r_as rfl rfl <| r_nx h43 <| c_sq fun k45 h45 => c_sq fun k47 h47 => c_rg <| r_mv rfl rfl <| r_eqF rfl rfl rfl (by omega) <| r_nx h47 <| c_cF rfl <| c_sk <| WE.then_n h45 <| c_sq fun k49 h49 => c_rg <| r_mv rfl rfl <| r_ls Try.underlying22 rfl rfl <| r_as rfl rfl <| r_nx h49 <| c_sq fun k51 h51 => c_sq fun k53 h53 => c_rg <| r_mv rfl rfl <| r_mv rfl rfl <| r_eqF rfl rfl rfl (by omega) <| r_nx h53 <| c_cF rfl <| c_sk <| WE.then_n h51 <| c_sq fun k55 h55 => c_sq fun k57 h57 => c_rg <| r_mv rfl rfl <| r_mv rfl rfl <| r_ad rfl rfl rfl (wadd64 (by omega)) <| r_mv rfl rfl ?_; rotate_left)
      refine r_cp Try.underlying22 rfl rfl ?_
      (refine r_gtF rfl rfl rfl (by omega) <| r_nx h57 <| c_cF rfl <| c_sk <| WE.then_n h55 <| c_sq fun k59 h59 => c_rg <| r_mv rfl rfl <| r_mv rfl rfl <| r_mv rfl rfl <| r_ad rfl rfl rfl (wadd64 (by omega)) ?_; rotate_left)
      refine r_st0 (l.length + 1) elem1 size1 rfl rfl (by omega) hcap rfl ?_
      (refine r_as rfl rfl <| r_nx h59 <| c_sq fun k61 h61 => c_sq fun k63 h63 => c_rg <| r_mv rfl rfl <| r_mv rfl rfl <| r_mv rfl rfl <| r_mv rfl rfl <| r_ad rfl rfl rfl (wadd64 (by omega)) ?_; rotate_left)
      refine r_sfj (i + 1) elem1 size1 rfl rfl (by omega) (by omega) (by omega) rfl ?_
      refine r_xm (v := .bool false) rfl rfl (fun w hw => x_over vb gg (i + 1) _ _ (fun e => hw.apart 1 0 _ _ (by decide) rfl rfl vb rfl (by rw [e]; rfl)) w _ _ _ _ (hw.shape 1 rfl) (hw.shape 0 rfl) (by omega) (fun j => frozen_of_row w vb j _ _ (hw.all 1 _ rfl).2)) rfl ?_
      (refine r_no rfl rfl rfl <| r_nx h63 <| c_cT rfl <| c_sq fun k65 h65 => ?_)
      refine WC.stail 8 rfl (by kernel_rfl) (by kernel_rfl) ?_
      refine WS.q (d := 69) (Qv.move rfl) rfl rfl rfl ?_
      refine WS.q (d := 70) (Qv.move rfl) rfl rfl rfl ?_
      refine WS.q (d := 71) (Qv.move rfl) rfl rfl rfl ?_
      refine WS.q (d := 72) (Qv.add rfl rfl (wadd64 (a := (i : Int)) (b := ((1 : Nat) : Int)) (by omega))) rfl rfl rfl ?_
      refine WS.q (d := 73) (Qv.sfj (i + 1) elem1 size1 rfl rfl (by omega) (by omega) (by omega)) rfl rfl rfl ?_
      refine WS.q (d := 74) (Qv.move rfl) rfl rfl rfl ?_
      refine WS.q (d := 75) (Qv.move rfl) rfl rfl rfl ?_
      refine WS.q (d := 76) (Qv.sfj i elem1 size1 rfl rfl rfl (by omega) (by omega)) rfl rfl rfl ?_
      refine WS.nil ?_
      refine WT.ev (d := 77) (Ev.copy 0 (vs := runes (l.drop i)) Try.underlying22 (by kernel_rfl) rfl rfl rfl (fun w hw j v hj => by rw [addr_add2]; exact hw.rowCell 0 rfl (hcur j v hj)) (by have := Nat.min_eq_right (a := l.length + 1 - i) (b := l.length + 1 - (i + 1)) (by omega); rw [hD]; show l.length - i = min _ _; rw [this]; omega) (by rw [hD]; omega) hone rfl) rfl rfl rfl (fun _ _ => ?_)
      refine WT.nil ?_
      (refine WE.then_n h65 <| c_sq fun k69 h69 => c_rg <| r_mv rfl rfl <| r_mv rfl rfl ?_; rotate_left)
      refine r_sfj i elem1 size1 rfl rfl rfl (by omega) (by omega) rfl ?_
      (refine r_mv rfl rfl ?_; rotate_left)
      refine r_cpy 0 [.int .i32 c] Try.underlying22 (by kernel_rfl) rfl rfl rfl (fun w hw j v hj => by rw [addr_add]; exact hw.rowCell 1 rfl hj) (by show 1 = min 1 _; omega) (by simp; omega) hc1 rfl rfl ?_
      (refine r_nx h69 <| c_sq fun k71 h71 => c_rg <| r_mv rfl rfl <| r_as rfl rfl <| r_nx h71 <| c_rt <| WE.then_r ?_; rotate_left)
      refine WE.ret1 (some ⟨gg, 0, none⟩, cp) rfl rfl (by show _ = some (Value.slice (some ⟨gg, 0, none⟩) (insL l i c).length cp); rw [hlenI]; rfl) trivial (fun w hw => ?_)
      have hfin := ins_B cur (runes (l.drop i)) (runes (l.take i)) (.int .i32 c) i hP (by simp; omega) (by omega)
      rw [hins] at hfin
      have h2 := Mem.shut 0 (n := i + 1 + (runes (l.drop i)).length) (c := cp) rfl (by simp; omega) (by omega) hcm hw
      rw [hfin] at h2
      have hO : OwnR (some ⟨gg, 0, none⟩, cp) (insL l i c) = .own (some ⟨gg, 0, none⟩) cp (i + 1 + (runes (l.drop i)).length) (runes (insL l i c)) 21 1 := by
        show Res.own _ _ (insL l i c).length _ _ _ = _
        rw [hlenI, show l.length + 1 = i + 1 + (runes (l.drop i)).length by rw [hD]; omega]
      show Mem w0 ([OwnR (some ⟨gg, 0, none⟩, cp) (insL l i c)] ++ m0) w
      rw [hO]
      exact Mem.pick [0] (by decide) rfl w h2
    · have hcp : cp = l.length := by omega
      subst hcp
      (refine r_nx h40 <| c_sq fun k46 h46 => c_rg <| r_mv rfl rfl <| r_ls Try.underlying22 rfl rfl <| r_as rfl rfl <| r_nx h46 <| c_sq fun k48 h48 => c_sq fun k50 h50 => c_rg <| r_mv rfl rfl <| r_eqF rfl rfl rfl (by omega) <| r_nx h50 <| c_cF rfl <| c_sk <| WE.then_n h48 <| c_sq fun k52 h52 => c_rg <| r_mv rfl rfl <| r_ls Try.underlying22 rfl rfl <| r_as rfl rfl <| r_nx h52 <| c_sq fun k54 h54 => c_sq fun k56 h56 => c_rg <| r_mv rfl rfl <| r_mv rfl rfl <| r_eqF rfl rfl rfl (by omega) <| r_nx h56 <| c_cF rfl <| c_sk <| WE.then_n h54 <| c_sq fun k58 h58 => c_sq fun k60 h60 => c_rg <| r_mv rfl rfl <| r_mv rfl rfl <| r_ad rfl rfl rfl (wadd64 (by omega)) <| r_mv rfl rfl ?_; rotate_left)
      refine r_cp Try.underlying22 rfl rfl ?_
      (refine r_gtT rfl rfl rfl (by omega) <| r_nx h60 <| c_cT rfl <| c_sq fun k62 h62 => c_rg <| r_mv rfl rfl <| r_mv rfl rfl ?_; rotate_left)
      refine r_st0 i elem1 size1 rfl rfl rfl (by omega) rfl ?_
      (refine r_mv rfl rfl <| r_mv rfl rfl <| r_ad rfl rfl rfl (wadd64 (by omega)) <| r_mv rfl rfl <| r_su rfl rfl rfl (wsub64 (by omega)) ?_; rotate_left)
      refine r_zr (kk := l.length + 1 - i) (zv := .int .i32 0) (runes (l.take i)) Try.underlying22 Try.underlying3 (by kernel_rfl) rfl rfl rfl (by omega) (fun w hw j v hj => ?_) (by simp; omega) (by omega) (by omega) (by omega) rfl (fun q => ?_)
      · have hj2 : (cur.take i)[j]? = some v := by rw [hP]; exact hj
        rw [List.getElem?_take] at hj2
        split at hj2
        · exact hw.rowCell 0 rfl hj2
        · cases hj2
      obtain ⟨g2, c2⟩ := q
      dsimp only
      refine WX.open 0 rfl (by omega) (fun g3 cur3 hv3 hcl3 hct3 hnc3 hcm3 => ?_)
      obtain rfl : g2 = g3 := by injection hv3 with h1; injection h1
      have hP3 : cur3.take i = runes (l.take i) := by
        have h1 : (cur3.take (i + (l.length + 1 - i))).take i = runes (l.take i) := by
          rw [hct3]
          exact List.take_left' (by simp; omega)
        rw [List.take_take, Nat.min_eq_left (by omega)] at h1
        exact h1
      (refine r_as rfl rfl <| r_nx h62 <| c_sq fun k75 h75 => c_rg <| r_mv rfl rfl <| r_mv rfl rfl ?_; rotate_left)
      refine r_sfj i elem1 size1 rfl rfl rfl (by omega) (by omega) rfl ?_
      (refine r_mv rfl rfl ?_; rotate_left)
      refine r_cpy 0 [.int .i32 c] Try.underlying22 (by kernel_rfl) rfl rfl rfl (fun w hw j v hj => by rw [addr_add]; exact hw.rowCell 2 rfl hj) (by show 1 = min 1 _; omega) (by simp; omega) hc1 rfl rfl ?_
      (refine r_nx h75 <| c_sq fun k77 h77 => ?_)
      refine WC.stail 8 rfl (by kernel_rfl) (by kernel_rfl) ?_
      refine WS.q (d := 46) (Qv.move rfl) rfl rfl rfl ?_
      refine WS.q (d := 47) (Qv.move rfl) rfl rfl rfl ?_
      refine WS.q (d := 48) (Qv.move rfl) rfl rfl rfl ?_
      refine WS.q (d := 49) (Qv.add rfl rfl (wadd64 (a := (i : Int)) (b := ((1 : Nat) : Int)) (by omega))) rfl rfl rfl ?_
      refine WS.q (d := 50) (Qv.sfj (i + 1) elem1 size1 rfl rfl (by omega) (by omega) (by omega)) rfl rfl rfl ?_
      refine WS.q (d := 51) (Qv.move rfl) rfl rfl rfl ?_
      refine WS.q (d := 52) (Qv.move rfl) rfl rfl rfl ?_
      refine WS.q (d := 53) (Qv.sfj i elem1 size1 rfl rfl rfl (by omega) (by omega)) rfl rfl rfl ?_
      refine WS.nil ?_
      refine WT.ev (d := 54) (Ev.copy 0 (vs := runes (l.drop i)) Try.underlying22 (by kernel_rfl) rfl rfl rfl (fun w hw j v hj => by rw [addr_add2]; exact hw.rowCell 1 rfl (hcur j v hj)) (by have := Nat.min_eq_left (a := l.length - i) (b := i + (l.length + 1 - i) - (i + 1)) (by omega); rw [hD]; show l.length - i = min _ _; rw [this]) (by rw [hD]; simp; omega) hone rfl) rfl rfl rfl (fun _ _ => ?_)
      refine WT.nil ?_
      (refine WE.then_n h77 <| c_sq fun k81 h81 => c_rg <| r_mv rfl rfl <| r_as rfl rfl <| r_nx h81 <| c_rt <| WE.then_r ?_; rotate_left)
      refine WE.ret1 (some ⟨g2, 0, none⟩, c2) rfl rfl (congrArg (fun n => some (Value.slice (some ⟨g2, 0, none⟩) n c2)) (show i + (l.length + 1 - i) = (insL l i c).length by rw [hlenI]; omega)) trivial (fun w hw => ?_)
      have hfin := ins_A cur3 (runes (l.drop i)) (runes (l.take i)) (.int .i32 c) i hP3 (by simp; omega) (by omega)
      rw [hins] at hfin
      have h2 := Mem.shut 0 (n := i + 1 + (runes (l.drop i)).length) (c := c2) rfl (by simp; omega) (by omega) hcm3 hw
      rw [hfin] at h2
      have hO : OwnR (some ⟨g2, 0, none⟩, c2) (insL l i c) = .own (some ⟨g2, 0, none⟩) c2 (i + 1 + (runes (l.drop i)).length) (runes (insL l i c)) 21 1 := by
        show Res.own _ _ (insL l i c).length _ _ _ = _
        rw [hlenI, show l.length + 1 = i + 1 + (runes (l.drop i)).length by rw [hD]; omega]
      show Mem w0 ([OwnR (some ⟨g2, 0, none⟩, c2) (insL l i c)] ++ m0) w
      rw [hO]
      exact Mem.pick [0] (by decide) rfl w h2
end Go.Proofs.Ythnabbidlmihbaa
