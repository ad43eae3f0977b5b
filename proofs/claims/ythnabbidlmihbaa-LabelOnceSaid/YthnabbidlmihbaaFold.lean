/- Code points of a name folded: the contract of fold.Fold. -/
import Derived.Test.YthnabbidlmihbaaCompose
import Derived.Test.YthnabbidlmihbaaErr
namespace Go.Proofs.Ythnabbidlmihbaa
open Go.RowKit Go.Gp

def okAll (l : List Int) : Bool := l.all fun c => (mapP c).2
def mapAll (l : List Int) : List Int := l.flatMap fun c => (mapP c).1
theorem mapP_short (c : Int) : (mapP c).1.length ≤ 2 := by
  have h1 : ∀ c d : Int, (map1 c d).1.length ≤ 2 := by
    intro c d
    by_cases a1 : d = -1
    · simp [map1, a1]
    by_cases a2 : d = -2
    · simp [map1, a2]
    by_cases a3 : d = -3
    · simp [map1, a3]
    by_cases a4 : d = -5
    · simp [map1, a4]
    simp [map1, a1, a2, a3, a4]
  unfold mapP; split <;> exact h1 _ _
theorem mapAll_length (l : List Int) : (mapAll l).length ≤ 2 * l.length := by
  induction l with
  | nil => simp [mapAll]
  | cons c l ih =>
    have := mapP_short c
    simp only [mapAll, List.flatMap_cons, List.length_append, List.length_cons] at ih ⊢
    omega
theorem mapAll_snoc (l : List Int) (c : Int) : mapAll (l ++ [c]) = mapAll l ++ (mapP c).1 := by simp [mapAll]
theorem okAll_snoc (l : List Int) (c : Int) : okAll (l ++ [c]) = (okAll l && (mapP c).2) := by simp [okAll]
/-- Every number is a rune's. -/
def R32 (l : List Int) : Prop := ∀ i, i < l.length → -2147483648 ≤ l.getD i 0 ∧ l.getD i 0 ≤ 2147483647
def sFold : ByteArray := ⟨#[102, 111, 108, 100]⟩

set_option maxRecDepth 100000 in
theorem fold_ok (A : Option Addr) (c : Nat) (l : List Int) (hn : l.length ≤ 1000000000) (hl : R32 l) (hok : okAll l = true) (w0 : World) (m0 : List Res) (hA : Rd w0 m0 A (runes l)) :
    Ct (α := Option Addr × Nat) Try.prog 9 [.slice A l.length c] w0 [] m0 (fun _ => True) (fun p => .tuple #[SlR p (compR (mapAll l)), .nilIface]) (fun p => [OwnR p (compR (mapAll l))]) := by
  refine Ct.of Try.func9 rfl (by kernel_rfl) rfl ?_
  (refine c_sq fun k10 h10 => c_rg <| r_as rfl rfl <| r_as rfl rfl <| r_nx h10 <| c_sq fun k12 h12 => c_rg <| r_as rfl rfl <| r_nx h12 <| c_sq fun k14 h14 => c_sq fun k16 h16 => c_rg <| r_mv rfl rfl <| r_ls Try.underlying22 rfl rfl <| r_mv rfl rfl <| r_nx h16 <| c_bl ?_; rotate_left)
  refine WC.loop (α := Nat × (Option Addr × Nat)) (fun x => [(9, .slice A l.length c), (10, .int .i64 l.length), (11, .int .i64 x.1), (4, SlR x.2 (mapAll (l.take x.1)))])
    (fun x => [OwnR x.2 (mapAll (l.take x.1))]) (fun x => x.1 ≤ l.length) (fun x => l.length - x.1) (0, (none, 0)) (by simp) ⟨rfl, rfl, rfl, rfl, trivial⟩ (Mem.nilOwn _ _) ?_
  rintro ⟨i, p⟩ hi
  dsimp only at hi ⊢
  by_cases hlt : i < l.length
  · have hc := mapAll_length (l.take i)
    have hc' : (l.take i).length ≤ i := List.length_take_le _ _
    have hs := mapP_short (l.getD i 0)
    have hb := hl i hlt
    have ht : (mapP (l.getD i 0)).2 = true := by
      have h1 : okAll (l.take (i + 1)) = true := by
        unfold okAll at hok ⊢
        rw [List.all_eq_true] at hok ⊢
        exact fun x hx => hok x (List.mem_of_mem_take hx)
      rw [take_next hlt, okAll_snoc] at h1
      simpa using (Bool.and_eq_true _ _ ▸ h1).2
    (refine c_sq fun k27 h27 => c_rg <| r_ltT rfl rfl rfl (by omega) <| r_nx h27 <| c_sq fun k29 h29 => c_cT rfl <| c_sk <| WE.then_n h29 <| c_sq fun k31 h31 => c_bl <| c_sq fun k33 h33 => c_rg <| r_im (hA.app _) Try.underlying22 (by kernel_rfl) rfl rfl rfl rfl (by omega) (by omega) <| r_li (i) (hA.app _) Try.underlying21 rfl rfl rfl (by omega) <| r_as rfl rfl <| r_nx h33 <| c_sq fun k35 h35 => c_rg <| r_mv rfl rfl ?_; rotate_left)
    refine WX.call (m1 := []) (m2 := [OwnR p (mapAll (l.take i))]) rfl rfl rfl (map_spec (l.getD i 0) hb.1 hb.2 _ _) rfl rfl (fun q _ => ?_)
    rw [ht]
    (refine r_mv rfl rfl <| r_ex rfl rfl rfl <| r_ex rfl rfl rfl <| r_as rfl rfl <| r_as rfl rfl <| r_nx h35 <| c_sq fun k39 h39 => c_sq fun k41 h41 => c_rg <| r_mv rfl rfl <| r_no rfl rfl rfl <| r_nx h41 <| c_cF rfl <| c_sk <| WE.then_n h39 <| c_rg <| r_mv rfl rfl <| r_mv rfl rfl ?_; rotate_left)
    refine r_am (ys := (mapP (l.getD i 0)).1) 1 (z := .int .i32 0) (by_ := 4) (f := (.int .i32 ·)) Try.underlying22 (by kernel_rfl) rfl rfl rfl rfl (Rd.own 0 rfl) rfl (fun _ => rfl) (by omega) rfl (fun r _ => ?_)
    rw [← mapAll_snoc, ← take_next hlt]
    (refine r_as rfl rfl <| r_nl <| WE.blk_n <| WE.then_n h31 <| c_rg <| r_ad rfl rfl rfl (wadd64 (by omega)) <| r_mv rfl rfl <| r_nl ?_; rotate_left)
    exact WE.back (i + 1, r) (by dsimp only; omega) (by dsimp only; omega) ⟨rfl, rfl, rfl, rfl, trivial⟩ (Mem.pick [1] (by decide) rfl)
  · have e : l.take i = l := List.take_of_length_le (by omega)
    rw [e]
    have hm := mapAll_length l
    (refine c_sq fun k24 h24 => c_rg <| r_ltF rfl rfl rfl (by omega) <| r_nx h24 <| c_sq fun k26 h26 => c_cF rfl <| c_ex <| WE.then_x <| WE.then_x <| WE.blk_x <| WE.then_n h14 <| c_sq fun k28 h28 => c_rg <| r_mv rfl rfl ?_; rotate_left)
    refine WX.call (m1 := []) (m2 := [OwnR p (mapAll l)]) rfl rfl rfl (compose_spec p.1 p.2 (mapAll l) (by omega) _ _ (Rd.own 0 rfl)) rfl rfl (fun q _ => ?_)
    (refine r_as rfl rfl <| r_as rfl rfl <| r_nx h28 <| c_rt ?_; rotate_left)
    exact WE.ret2 q rfl rfl rfl rfl rfl trivial (Mem.pick [0] (by decide) rfl)

set_option maxRecDepth 100000 in
theorem fold_no (A : Option Addr) (c : Nat) (l : List Int) (hn : l.length ≤ 1000000000) (hl : R32 l) (hok : okAll l = false) (w0 : World) (m0 : List Res) (hA : Rd w0 m0 A (runes l)) :
    Ct (α := Nat) Try.prog 9 [.slice A l.length c] w0 [] m0 (fun _ => True) (fun b => .tuple #[.slice none 0 0, ecv [(b, sFold)] 2]) (fun b => ecm [(b, sFold)] 2) := by
  refine Ct.of Try.func9 rfl (by kernel_rfl) rfl ?_
  (refine c_sq fun k10 h10 => c_rg <| r_as rfl rfl <| r_as rfl rfl <| r_nx h10 <| c_sq fun k12 h12 => c_rg <| r_as rfl rfl <| r_nx h12 <| c_sq fun k14 h14 => c_sq fun k16 h16 => c_rg <| r_mv rfl rfl <| r_ls Try.underlying22 rfl rfl <| r_mv rfl rfl <| r_nx h16 <| c_bl ?_; rotate_left)
  refine WC.loop (α := Nat × (Option Addr × Nat)) (fun x => [(9, .slice A l.length c), (10, .int .i64 l.length), (11, .int .i64 x.1), (4, SlR x.2 (mapAll (l.take x.1)))])
    (fun x => [OwnR x.2 (mapAll (l.take x.1))]) (fun x => x.1 ≤ l.length ∧ okAll (l.take x.1) = true) (fun x => l.length - x.1) (0, (none, 0)) ⟨by simp, rfl⟩ ⟨rfl, rfl, rfl, rfl, trivial⟩ (Mem.nilOwn _ _) ?_
  rintro ⟨i, p⟩ ⟨hi, ho⟩
  dsimp only at hi ho ⊢
  by_cases hlt : i < l.length
  · have hc := mapAll_length (l.take i)
    have hc' : (l.take i).length ≤ i := List.length_take_le _ _
    have hs := mapP_short (l.getD i 0)
    have hb := hl i hlt
    (refine c_sq fun k27 h27 => c_rg <| r_ltT rfl rfl rfl (by omega) <| r_nx h27 <| c_sq fun k29 h29 => c_cT rfl <| c_sk <| WE.then_n h29 <| c_sq fun k31 h31 => c_bl <| c_sq fun k33 h33 => c_rg <| r_im (hA.app _) Try.underlying22 (by kernel_rfl) rfl rfl rfl rfl (by omega) (by omega) <| r_li (i) (hA.app _) Try.underlying21 rfl rfl rfl (by omega) <| r_as rfl rfl <| r_nx h33 <| c_sq fun k35 h35 => c_rg <| r_mv rfl rfl ?_; rotate_left)
    refine WX.call (m1 := []) (m2 := [OwnR p (mapAll (l.take i))]) rfl rfl rfl (map_spec (l.getD i 0) hb.1 hb.2 _ _) rfl rfl (fun q _ => ?_)
    rcases Bool.eq_false_or_eq_true (mapP (l.getD i 0)).2 with ht | ht
    · rw [ht]
      (refine r_mv rfl rfl <| r_ex rfl rfl rfl <| r_ex rfl rfl rfl <| r_as rfl rfl <| r_as rfl rfl <| r_nx h35 <| c_sq fun k40 h40 => c_sq fun k42 h42 => c_rg <| r_mv rfl rfl <| r_no rfl rfl rfl <| r_nx h42 <| c_cF rfl <| c_sk <| WE.then_n h40 <| c_rg <| r_mv rfl rfl <| r_mv rfl rfl ?_; rotate_left)
      refine r_am (ys := (mapP (l.getD i 0)).1) 1 (z := .int .i32 0) (by_ := 4) (f := (.int .i32 ·)) Try.underlying22 (by kernel_rfl) rfl rfl rfl rfl (Rd.own 0 rfl) rfl (fun _ => rfl) (by omega) rfl (fun r _ => ?_)
      rw [← mapAll_snoc, ← take_next hlt]
      (refine r_as rfl rfl <| r_nl <| WE.blk_n <| WE.then_n h31 <| c_rg <| r_ad rfl rfl rfl (wadd64 (by omega)) <| r_mv rfl rfl <| r_nl ?_; rotate_left)
      exact WE.back (i + 1, r) ⟨by dsimp only; omega, by dsimp only; rw [take_next hlt, okAll_snoc, ho, ht]; rfl⟩ (by dsimp only; omega) ⟨rfl, rfl, rfl, rfl, trivial⟩ (Mem.pick [1] (by decide) rfl)
    · rw [ht]
      (refine r_mv rfl rfl <| r_ex rfl rfl rfl <| r_ex rfl rfl rfl <| r_as rfl rfl <| r_as rfl rfl <| r_nx h35 <| c_sq fun k40 h40 => c_sq fun k42 h42 => c_rg <| r_mv rfl rfl <| r_no rfl rfl rfl <| r_nx h42 <| c_cT rfl <| c_sq fun k44 h44 => c_rg <| r_mi rfl (fun _ => by kernel_rfl) rfl ?_; rotate_left)
      refine WX.call (m1 := []) (m2 := _) rfl rfl rfl (wrap_spec sFold [] 2 _ _) rfl rfl (fun b _ => ?_)
      (refine r_as rfl rfl <| r_as rfl rfl <| r_nx h44 <| c_rt <| WE.then_r <| WE.blk_r <| WE.then_r <| WE.then_r <| WE.blk_r <| WE.then_r ?_; rotate_left)
      exact WE.ret2 b rfl rfl rfl rfl rfl trivial (Mem.pick [0] (by decide) rfl)
  · have e : l.take i = l := List.take_of_length_le (by omega)
    rw [e, hok] at ho
    cases ho
end Go.Proofs.Ythnabbidlmihbaa
