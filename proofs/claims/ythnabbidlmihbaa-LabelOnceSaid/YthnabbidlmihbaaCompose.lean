/- Letters and marks put together: the contracts of fold.Compose and its closure. -/
import Derived.Test.YthnabbidlmihbaaPair
namespace Go.Proofs.Ythnabbidlmihbaa
open Go.RowKit Go.Gp

/-- One more code point behind what is there. -/
def addR (xs : List Int) (c : Int) : List Int := if 0 < xs.length ∧ pairR (xs.getD (xs.length - 1) 0) c ≠ 0 then xs.set (xs.length - 1) (pairR (xs.getD (xs.length - 1) 0) c) else xs ++ [c]
def compR (l : List Int) : List Int := l.foldl addR []
theorem addR_length (xs : List Int) (c : Int) : (addR xs c).length ≤ xs.length + 1 := by unfold addR; split <;> simp
theorem addR_some (xs : List Int) (c : Int) : 0 < (addR xs c).length := by
  unfold addR
  split
  · rename_i h; simpa using h.1
  · simp
abbrev OutB (g : Nat) (p : Option Addr × Nat) (xs : List Int) : Res := .blk g [SlR p xs] 22

set_option maxRecDepth 100000 in
theorem add_spec (c : Int) (g : Nat) (p : Option Addr × Nat) (xs : List Int) (hn : xs.length ≤ 1000000000000) (w0 : World) (m0 : List Res) :
    Ct (α := Option Addr × Nat) Try.prog 50 [.int .i32 c, .pointer (some ⟨g, 0, none⟩)] w0 [OutB g p xs, OwnR p xs] m0 (fun _ => True) (fun _ => .tuple #[]) (fun p => [OutB g p (addR xs c), OwnR p (addR xs c)]) := by
  refine Ct.of Try.func50 rfl (by kernel_rfl) rfl ?_
  by_cases h0 : 0 < xs.length
  · obtain ⟨j, hj⟩ : ∃ j : Nat, xs.length = j + 1 := ⟨xs.length - 1, by omega⟩
    have hj' : (xs.length : Int) - 1 = (j : Int) := by omega
    (refine c_sq fun k12 h12 => c_sq fun k14 h14 => c_rg <| r_lb 0 Try.underlying22 rfl rfl rfl rfl rfl <| r_ls Try.underlying22 rfl rfl <| r_su rfl rfl rfl (wsub64 (by omega)) <| r_as rfl rfl <| r_nx h14 <| c_sq fun k16 h16 => c_rg <| r_mv rfl rfl <| r_geT rfl rfl rfl (by omega) <| r_nx h16 <| c_cT rfl <| c_sq fun k18 h18 => c_rg <| r_lb 0 Try.underlying22 rfl rfl rfl rfl rfl <| r_mv rfl rfl <| r_im (Rd.own 1 rfl) Try.underlying22 (by kernel_rfl) rfl rfl rfl rfl (by omega) (by omega) ?_; rotate_left)
    rw [hj']
    refine r_li j (Rd.own 1 rfl) Try.underlying21 rfl rfl rfl (by omega) ?_
    (refine r_mv rfl rfl ?_; rotate_left)
    refine WX.pure rfl rfl (pair_spec (xs.getD j 0) c _ _) rfl rfl ?_
    by_cases hx : pairR (xs.getD j 0) c = 0
    · have e : addR xs c = xs ++ [c] := by unfold addR; rw [if_neg (by rw [hj]; simp only [Nat.add_sub_cancel]; exact fun h => h.2 hx)]
      rw [hx]
      (refine r_as rfl rfl <| r_nx h18 <| c_sq fun k22 h22 => c_rg <| r_mv rfl rfl <| r_neF rfl rfl rfl (by omega) <| r_nx h22 <| c_cF rfl <| c_sk <| WE.then_n h12 <| c_rg <| r_lb 0 Try.underlying22 rfl rfl rfl rfl rfl <| r_mv rfl rfl <| r_bo Try.underlying22 rfl (fun _ => by kernel_rfl) rfl rfl rfl (fun _ => ?_); rotate_left)
      rename_i b
      refine r_am (ys := [c]) 2 (z := .int .i32 0) (by_ := 4) (f := (.int .i32 ·)) Try.underlying22 (by kernel_rfl) rfl rfl rfl rfl (Rd.own 0 rfl) rfl (fun _ => rfl) (by omega) rfl (fun q _ => ?_)
      (refine r_st 1 (by kernel_rfl) rfl rfl rfl rfl rfl rfl rfl <| r_nl ?_; rotate_left)
      exact WE.end0 q rfl rfl rfl trivial (by rw [e]; exact Mem.pick [1, 2] (by decide) rfl)
    · have e : addR xs c = xs.set j (pairR (xs.getD j 0) c) := by unfold addR; rw [if_pos (by rw [hj]; simp only [Nat.add_sub_cancel]; exact ⟨by omega, hx⟩), hj, Nat.add_sub_cancel]
      (refine r_as rfl rfl <| r_nx h18 <| c_sq fun k22 h22 => c_rg <| r_mv rfl rfl <| r_neT rfl rfl rfl (by omega) <| r_nx h22 <| c_cT rfl <| c_sq fun k24 h24 => c_rg <| r_lb 0 Try.underlying22 rfl rfl rfl rfl rfl <| r_mv rfl rfl <| r_mv rfl rfl <| r_im (Rd.own 1 rfl) Try.underlying22 (by kernel_rfl) rfl rfl rfl rfl (by omega) (by omega) ?_; rotate_left)
      refine r_so 1 j (by kernel_rfl) rfl rfl rfl rfl (by omega) rfl rfl ?_
      (refine r_nx h24 <| c_rt <| WE.then_r ?_; rotate_left)
      refine WE.ret0 p rfl rfl rfl trivial (fun w hw => ?_)
      rw [e]
      show Mem _ ([.blk g [.slice p.1 (xs.set j (pairR (xs.getD j 0) c)).length p.2] _, .own p.1 p.2 (xs.set j (pairR (xs.getD j 0) c)).length (runes (xs.set j (pairR (xs.getD j 0) c))) _ 1] ++ _) w
      rw [List.length_set, runes, List.map_set]
      exact hw
  · have hnil : xs = [] := List.eq_nil_of_length_eq_zero (by omega)
    subst hnil
    (refine c_sq fun k10 h10 => c_sq fun k12 h12 => c_rg <| r_lb 0 Try.underlying22 rfl rfl rfl rfl rfl <| r_ls Try.underlying22 rfl rfl <| r_su rfl rfl rfl (wsub64 (by omega)) <| r_as rfl rfl <| r_nx h12 <| c_sq fun k14 h14 => c_rg <| r_mv rfl rfl <| r_geF rfl rfl rfl (by omega) <| r_nx h14 <| c_cF rfl <| c_sk <| WE.then_n h10 <| c_rg <| r_lb 0 Try.underlying22 rfl rfl rfl rfl rfl <| r_mv rfl rfl <| r_bo Try.underlying22 rfl (fun _ => by kernel_rfl) rfl rfl rfl (fun _ => ?_); rotate_left)
    refine r_am (ys := [c]) 2 (z := .int .i32 0) (by_ := 4) (f := (.int .i32 ·)) Try.underlying22 (by kernel_rfl) rfl rfl rfl rfl (Rd.own 0 rfl) rfl (fun _ => rfl) (by simp) rfl (fun q _ => ?_)
    (refine r_st 1 (by kernel_rfl) rfl rfl rfl rfl rfl rfl rfl <| r_nl ?_; rotate_left)
    exact WE.end0 q rfl rfl rfl trivial (Mem.pick [1, 2] (by decide) rfl)

theorem compR_snoc (l : List Int) (c : Int) : compR (l ++ [c]) = addR (compR l) c := by simp [compR]
theorem foldl_addR_length (l : List Int) : ∀ acc : List Int, (l.foldl addR acc).length ≤ acc.length + l.length := by
  induction l with
  | nil => intro acc; simp
  | cons c l ih =>
    intro acc
    have h1 := ih (addR acc c)
    have h2 := addR_length acc c
    simp only [List.foldl_cons, List.length_cons]
    omega
theorem compR_length (l : List Int) : (compR l).length ≤ l.length := by
  have := foldl_addR_length l []
  simpa [compR] using this
theorem take_next {l : List Int} {i : Nat} (h : i < l.length) : l.take (i + 1) = l.take i ++ [l.getD i 0] := by
  rw [List.take_succ_eq_append_getElem h]
  simp [h]
set_option maxRecDepth 100000 in
theorem compose_spec (A : Option Addr) (c : Nat) (l : List Int) (hn : l.length ≤ 1000000000000) (w0 : World) (m0 : List Res) (hA : Rd w0 m0 A (runes l)) :
    Ct (α := Option Addr × Nat) Try.prog 28 [.slice A l.length c] w0 [] m0 (fun _ => True) (fun p => SlR p (compR l)) (fun p => [OwnR p (compR l)]) := by
  refine Ct.of Try.func28 rfl (by kernel_rfl) rfl ?_
  (refine c_sq fun k8 h8 => c_rg <| r_as rfl rfl <| r_nx h8 <| c_sq fun k10 h10 => c_rg <| r_al (z := .slice none 0 0) (cs := [.slice none 0 0]) (fun _ => by kernel_rfl) rfl rfl (fun _ => ?_); refine r_nx h10 <| c_sq fun k13 h13 => c_rg <| r_fn rfl rfl <| r_as rfl rfl <| r_nx h13 <| c_sq fun k15 h15 => c_sq fun k17 h17 => c_rg <| r_mv rfl rfl <| r_ls Try.underlying22 rfl rfl <| r_mv rfl rfl <| r_nx h17 <| c_bl ?_; rotate_left)
  rename_i g
  refine WC.loop (α := Nat × (Option Addr × Nat)) (fun x => [(8, .slice A l.length c), (9, .int .i64 l.length), (10, .int .i64 x.1), (4, .func (.func 50) #[] #[.pointer (some ⟨g, 0, none⟩)]), (3, .pointer (some ⟨g, 0, none⟩))])
    (fun x => [OutB g x.2 (compR (l.take x.1)), OwnR x.2 (compR (l.take x.1))]) (fun x => x.1 ≤ l.length) (fun x => l.length - x.1) (0, (none, 0)) (by simp) ⟨rfl, rfl, rfl, rfl, rfl, trivial⟩ (fun w hw => Mem.pick [1, 0] (by decide) rfl w (Mem.addNil _ _ w hw)) ?_
  rintro ⟨i, p⟩ hi
  dsimp only at hi ⊢
  by_cases hlt : i < l.length
  · (refine c_sq fun k23 h23 => c_rg <| r_ltT rfl rfl rfl (by omega) <| r_nx h23 <| c_sq fun k25 h25 => c_cT rfl <| c_sk <| WE.then_n h25 <| c_sq fun k27 h27 => c_bl <| c_sq fun k29 h29 => c_rg <| r_im (hA.app _) Try.underlying22 (by kernel_rfl) rfl rfl rfl rfl (by omega) (by omega) <| r_li (i) (hA.app _) Try.underlying21 rfl rfl rfl (by omega) <| r_as rfl rfl <| r_nx h29 <| c_rg <| r_mv rfl rfl <| r_mv rfl rfl ?_; rotate_left)
    have hc := compR_length (l.take i)
    have hc' : (l.take i).length ≤ i := List.length_take_le _ _
    refine WX.call (m1 := [OutB g p (compR (l.take i)), OwnR p (compR (l.take i))]) (m2 := []) rfl rfl rfl (add_spec (l.getD i 0) g p (compR (l.take i)) (by omega) _ _) rfl rfl (fun q _ => ?_)
    rw [← compR_snoc, ← take_next hlt]
    (refine r_nl <| WE.blk_n <| WE.then_n h27 <| c_rg <| r_ad rfl rfl rfl (wadd64 (by omega)) <| r_mv rfl rfl <| r_nl ?_; rotate_left)
    exact WE.back (i + 1, q) (by dsimp only; omega) (by dsimp only; omega) ⟨rfl, rfl, rfl, rfl, rfl, trivial⟩ Mem.keep
  · have e : l.take i = l := List.take_of_length_le (by omega)
    rw [e]
    (refine c_sq fun k24 h24 => c_rg <| r_ltF rfl rfl rfl (by omega) <| r_nx h24 <| c_sq fun k26 h26 => c_cF rfl <| c_ex <| WE.then_x <| WE.then_x <| WE.blk_x <| WE.then_n h15 <| c_sq fun k28 h28 => c_rg <| r_lb 0 Try.underlying22 rfl rfl rfl rfl rfl <| r_as rfl rfl <| r_nx h28 <| c_rt ?_; rotate_left)
    exact WE.ret1 p rfl rfl rfl trivial (Mem.pick [1] (by decide) rfl)
end Go.Proofs.Ythnabbidlmihbaa
