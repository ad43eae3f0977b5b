/- The document's Fold of layer 5: the walk; and the plain law: letters and marks put together are the same. -/
import Derived.Test.YthnabbidlmihbaaDoorRefComp
namespace Go.Proofs.YthnabbidlmihbaaDoor
open Go.RowKit Go.Gp

def rMapAll (l : List Int) : List Int := l.flatMap fun c => (refMap c).1
def rOkAll (l : List Int) : Bool := l.all fun c => (refMap c).2
theorem rMapAll_eq {l : List Int} (h : ∀ n ∈ l, -2147483648 ≤ n ∧ n ≤ 2147483647) : rMapAll l = mapAll l ∧ rOkAll l = okAll l := by
  induction l with
  | nil => exact ⟨rfl, rfl⟩
  | cons c l ih =>
    obtain ⟨h1, h2⟩ := ih (fun n hn => h n (by simp [hn]))
    have hc := h c (by simp)
    unfold rMapAll mapAll rOkAll okAll at *
    rw [List.flatMap_cons, List.flatMap_cons, List.all_cons, List.all_cons, h1, h2, map_law c hc.1 hc.2]
    exact ⟨rfl, rfl⟩
theorem rMapAll_snoc (l : List Int) (c : Int) : rMapAll (l ++ [c]) = rMapAll l ++ (refMap c).1 := by simp [rMapAll]
theorem rOkAll_snoc (l : List Int) (c : Int) : rOkAll (l ++ [c]) = (rOkAll l && (refMap c).2) := by simp [rOkAll]

set_option maxRecDepth 100000 in
theorem rfold_ok (A : Option Addr) (c : Nat) (l : List Int) (hn : l.length ≤ 1000000000) (hl : ∀ n ∈ l, -2147483648 ≤ n ∧ n ≤ 2147483647) (hok : okAll l = true) (w0 : World) (m0 : List Res) (hA : Rd w0 m0 A (runes l)) :
    Ct (α := Option Addr × Nat) Tryd.prog 6 [.slice A l.length c] w0 [] m0 (fun _ => True) (fun p => .tuple #[SlR p (rComp (mapAll l)), .int .i64 0]) (fun p => [OwnR p (rComp (mapAll l))]) := by
  refine Ct.of Tryd.func6 rfl (by kernel_rfl) rfl ?_
  (refine c_sq fun k10 h10 => c_rg <| r_as rfl rfl <| r_as rfl rfl <| r_nx h10 <| c_sq fun k12 h12 => c_rg <| r_as rfl rfl <| r_nx h12 <| c_sq fun k14 h14 => c_sq fun k16 h16 => c_rg <| r_as rfl rfl <| r_nx h16 <| c_bl ?_; rotate_left)
  refine WC.loop (α := Nat × (Option Addr × Nat)) (fun x => [(0, .slice A l.length c), (5, .int .i64 x.1), (4, SlR x.2 (mapAll (l.take x.1)))])
    (fun x => [OwnR x.2 (mapAll (l.take x.1))]) (fun x => x.1 ≤ l.length) (fun x => l.length - x.1) (0, (none, 0)) (by simp) ⟨rfl, rfl, rfl, trivial⟩ (Mem.nilOwn _ _) ?_
  rintro ⟨i, p⟩ hi
  dsimp only at hi ⊢
  by_cases hlt : i < l.length
  · have hc := mapAll_length (l.take i)
    have hc' : (l.take i).length ≤ i := List.length_take_le _ _
    have hb : -2147483648 ≤ l.getD i 0 ∧ l.getD i 0 ≤ 2147483647 := hl _ (by simp [hlt])
    have hs := refMap_short (l.getD i 0) hb.1 hb.2
    have ht : (refMap (l.getD i 0)).2 = true := by
      rw [← map_law _ hb.1 hb.2]
      exact List.all_eq_true.1 hok _ (by simp [hlt])
    (refine c_sq fun k27 h27 => c_sq fun k29 h29 => c_rg <| r_mv rfl rfl <| r_mv rfl rfl <| r_ls Tryd.underlying22 rfl rfl <| r_ltT rfl rfl rfl (by omega) <| r_nx h29 <| c_cT rfl <| c_sk <| WE.then_n h27 <| c_sq fun k31 h31 => c_bl <| c_sq fun k33 h33 => c_rg <| r_mv rfl rfl <| r_mv rfl rfl <| r_im (hA.app _) Tryd.underlying22 (by kernel_rfl) rfl rfl rfl rfl (by omega) (by omega) <| r_li (i) (hA.app _) Tryd.underlying21 rfl rfl rfl (by omega) ?_; rotate_left)
    refine WX.call (m1 := []) (m2 := [OwnR p (mapAll (l.take i))]) rfl rfl rfl (refmap_spec (l.getD i 0) _ _) rfl rfl (fun q _ => ?_)
    rw [ht]
    (refine r_mv rfl rfl <| r_ex rfl rfl rfl <| r_ex rfl rfl rfl <| r_as rfl rfl <| r_as rfl rfl <| r_nx h33 <| c_sq fun k37 h37 => c_sq fun k39 h39 => c_rg <| r_mv rfl rfl <| r_no rfl rfl rfl <| r_nx h39 <| c_cF rfl <| c_sk <| WE.then_n h37 <| c_rg <| r_mv rfl rfl <| r_mv rfl rfl ?_; rotate_left)
    refine r_am (ys := (refMap (l.getD i 0)).1) 1 (z := .int .i32 0) (by_ := 4) (f := (.int .i32 ·)) Tryd.underlying22 (by kernel_rfl) rfl rfl rfl rfl (Rd.own 0 rfl) rfl (fun _ => rfl) (by omega) rfl (fun r _ => ?_)
    rw [← map_law _ hb.1 hb.2, ← mapAll_snoc, ← take_next hlt]
    (refine r_as rfl rfl <| r_nl <| WE.blk_n <| WE.then_n h31 <| c_rg <| r_mv rfl rfl <| r_ad rfl rfl rfl (wadd64 (by omega)) <| r_as rfl rfl <| r_nl ?_; rotate_left)
    exact WE.back (i + 1, r) (by dsimp only; omega) (by dsimp only; omega) ⟨rfl, rfl, rfl, trivial⟩ (Mem.pick [1] (by decide) rfl)
  · have e : l.take i = l := List.take_of_length_le (by omega)
    rw [e]
    have hm := mapAll_length l
    (refine c_sq fun k24 h24 => c_sq fun k26 h26 => c_rg <| r_mv rfl rfl <| r_mv rfl rfl <| r_ls Tryd.underlying22 rfl rfl <| r_ltF rfl rfl rfl (by omega) <| r_nx h26 <| c_cF rfl <| c_ex <| WE.then_x <| WE.then_x <| WE.blk_x <| WE.then_n h14 <| c_sq fun k28 h28 => c_rg <| r_mv rfl rfl ?_; rotate_left)
    refine WX.call (m1 := []) (m2 := [OwnR p (mapAll l)]) rfl rfl rfl (rcomp_spec p.1 p.2 (mapAll l) (by omega) _ _ (Rd.own 0 rfl)) rfl rfl (fun q _ => ?_)
    (refine r_as rfl rfl <| r_as rfl rfl <| r_nx h28 <| c_rt ?_; rotate_left)
    exact WE.ret2 q rfl rfl rfl rfl rfl trivial (Mem.pick [0] (by decide) rfl)

set_option maxRecDepth 100000 in
theorem rfold_no (A : Option Addr) (c : Nat) (l : List Int) (hn : l.length ≤ 1000000000) (hl : ∀ n ∈ l, -2147483648 ≤ n ∧ n ≤ 2147483647) (hok : okAll l = false) (w0 : World) (m0 : List Res) (hA : Rd w0 m0 A (runes l)) :
    PureC Tryd.prog 6 [.slice A l.length c] w0 m0 (.tuple #[.slice none 0 0, .int .i64 2]) := by
  refine Ct.of Tryd.func6 rfl (by kernel_rfl) rfl ?_
  (refine c_sq fun k10 h10 => c_rg <| r_as rfl rfl <| r_as rfl rfl <| r_nx h10 <| c_sq fun k12 h12 => c_rg <| r_as rfl rfl <| r_nx h12 <| c_sq fun k14 h14 => c_sq fun k16 h16 => c_rg <| r_as rfl rfl <| r_nx h16 <| c_bl ?_; rotate_left)
  refine WC.loop (α := Nat × (Option Addr × Nat)) (fun x => [(0, .slice A l.length c), (5, .int .i64 x.1), (4, SlR x.2 (mapAll (l.take x.1)))])
    (fun x => [OwnR x.2 (mapAll (l.take x.1))]) (fun x => x.1 ≤ l.length ∧ okAll (l.take x.1) = true) (fun x => l.length - x.1) (0, (none, 0)) ⟨by simp, rfl⟩ ⟨rfl, rfl, rfl, trivial⟩ (Mem.nilOwn _ _) ?_
  rintro ⟨i, p⟩ ⟨hi, ho⟩
  dsimp only at hi ho ⊢
  by_cases hlt : i < l.length
  · have hc := mapAll_length (l.take i)
    have hc' : (l.take i).length ≤ i := List.length_take_le _ _
    have hb : -2147483648 ≤ l.getD i 0 ∧ l.getD i 0 ≤ 2147483647 := hl _ (by simp [hlt])
    have hs := refMap_short (l.getD i 0) hb.1 hb.2
    (refine c_sq fun k27 h27 => c_sq fun k29 h29 => c_rg <| r_mv rfl rfl <| r_mv rfl rfl <| r_ls Tryd.underlying22 rfl rfl <| r_ltT rfl rfl rfl (by omega) <| r_nx h29 <| c_cT rfl <| c_sk <| WE.then_n h27 <| c_sq fun k31 h31 => c_bl <| c_sq fun k33 h33 => c_rg <| r_mv rfl rfl <| r_mv rfl rfl <| r_im (hA.app _) Tryd.underlying22 (by kernel_rfl) rfl rfl rfl rfl (by omega) (by omega) <| r_li (i) (hA.app _) Tryd.underlying21 rfl rfl rfl (by omega) ?_; rotate_left)
    refine WX.call (m1 := []) (m2 := [OwnR p (mapAll (l.take i))]) rfl rfl rfl (refmap_spec (l.getD i 0) _ _) rfl rfl (fun q _ => ?_)
    rcases Bool.eq_false_or_eq_true (refMap (l.getD i 0)).2 with ht | ht
    · rw [ht]
      (refine r_mv rfl rfl <| r_ex rfl rfl rfl <| r_ex rfl rfl rfl <| r_as rfl rfl <| r_as rfl rfl <| r_nx h33 <| c_sq fun k38 h38 => c_sq fun k40 h40 => c_rg <| r_mv rfl rfl <| r_no rfl rfl rfl <| r_nx h40 <| c_cF rfl <| c_sk <| WE.then_n h38 <| c_rg <| r_mv rfl rfl <| r_mv rfl rfl ?_; rotate_left)
      refine r_am (ys := (refMap (l.getD i 0)).1) 1 (z := .int .i32 0) (by_ := 4) (f := (.int .i32 ·)) Tryd.underlying22 (by kernel_rfl) rfl rfl rfl rfl (Rd.own 0 rfl) rfl (fun _ => rfl) (by omega) rfl (fun r _ => ?_)
      rw [← map_law _ hb.1 hb.2, ← mapAll_snoc, ← take_next hlt]
      (refine r_as rfl rfl <| r_nl <| WE.blk_n <| WE.then_n h31 <| c_rg <| r_mv rfl rfl <| r_ad rfl rfl rfl (wadd64 (by omega)) <| r_as rfl rfl <| r_nl ?_; rotate_left)
      exact WE.back (i + 1, r) ⟨by dsimp only; omega, by dsimp only; rw [take_next hlt, okAll_snoc, ho, map_law _ hb.1 hb.2, ht]; rfl⟩ (by dsimp only; omega) ⟨rfl, rfl, rfl, trivial⟩ (Mem.pick [1] (by decide) rfl)
    · rw [ht]
      (refine r_mv rfl rfl <| r_ex rfl rfl rfl <| r_ex rfl rfl rfl <| r_as rfl rfl <| r_as rfl rfl <| r_nx h33 <| c_sq fun k38 h38 => c_sq fun k40 h40 => c_rg <| r_mv rfl rfl <| r_no rfl rfl rfl <| r_nx h40 <| c_cT rfl <| c_sq fun k42 h42 => c_rg <| r_as rfl rfl <| r_as rfl rfl <| r_nx h42 <| c_rt <| WE.then_r <| WE.blk_r <| WE.then_r <| WE.then_r <| WE.blk_r <| WE.then_r ?_; rotate_left)
      exact WE.ret2 () rfl rfl rfl rfl rfl trivial Mem.drop
  · have e : l.take i = l := List.take_of_length_le (by omega)
    rw [e, hok] at ho
    cases ho
end Go.Proofs.YthnabbidlmihbaaDoor
