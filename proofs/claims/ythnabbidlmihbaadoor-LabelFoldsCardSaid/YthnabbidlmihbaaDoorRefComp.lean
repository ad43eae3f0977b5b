/- The document's made, Compose, Fold of layer 5: the walks. -/
import Derived.Test.YthnabbidlmihbaaDoorHeld
import Derived.Test.YthnabbidlmihbaaDoorMore
import Derived.Test.YthnabbidlmihbaaDoorLawFold
namespace Go.Proofs.YthnabbidlmihbaaDoor
open Go.RowKit Go.Gp

def rLetters : List Int := [224, 225, 226, 227, 228, 229, 231, 232, 233, 234, 235, 236, 237, 238, 239, 241, 242, 243, 244, 245, 246, 249, 250, 251, 252, 253, 255]
def rOf : List Int := [97, 97, 97, 97, 97, 97, 99, 101, 101, 101, 101, 105, 105, 105, 105, 110, 111, 111, 111, 111, 111, 117, 117, 117, 117, 121, 121]
def rBy : List Int := [768, 769, 770, 771, 776, 778, 807, 768, 769, 770, 776, 768, 769, 770, 776, 771, 768, 769, 770, 771, 776, 768, 769, 770, 776, 769, 776]
def rOfB : ByteArray := ⟨#[97, 97, 97, 97, 97, 97, 99, 101, 101, 101, 101, 105, 105, 105, 105, 110, 111, 111, 111, 111, 111, 117, 117, 117, 117, 121, 121]⟩
/-- From number i on. -/
def rMadeF (c m : Int) : Nat → Nat → Int
  | _, 0 => 0
  | i, f + 1 => if c = rOf.getD i 0 ∧ m = rBy.getD i 0 then rLetters.getD i 0 else rMadeF c m (i + 1) f
def rMade (c m : Int) : Int := rMadeF c m 0 27
theorem rOfB_at (i : Nat) (h : i < 27) : ∃ v : UInt8, rOfB.data[i]? = some v ∧ ((v.toNat : Nat) : Int) = rOf.getD i 0 := by
  have h' : i = 0 ∨ i = 1 ∨ i = 2 ∨ i = 3 ∨ i = 4 ∨ i = 5 ∨ i = 6 ∨ i = 7 ∨ i = 8 ∨ i = 9 ∨ i = 10 ∨ i = 11 ∨ i = 12 ∨ i = 13 ∨ i = 14 ∨ i = 15 ∨ i = 16 ∨ i = 17 ∨ i = 18 ∨ i = 19 ∨ i = 20 ∨ i = 21 ∨ i = 22 ∨ i = 23 ∨ i = 24 ∨ i = 25 ∨ i = 26 := by omega
  rcases h' with rfl | rfl | rfl | rfl | rfl | rfl | rfl | rfl | rfl | rfl | rfl | rfl | rfl | rfl | rfl | rfl | rfl | rfl | rfl | rfl | rfl | rfl | rfl | rfl | rfl | rfl | rfl
  all_goals exact ⟨_, rfl, rfl⟩
theorem rOf_bd (i : Nat) : 0 ≤ rOf.getD i 0 ∧ rOf.getD i 0 ≤ 255 := by
  by_cases h : i < 27
  · obtain ⟨v, _, e⟩ := rOfB_at i h
    have := v.toNat_lt
    omega
  · rw [List.getD_eq_getElem?_getD, List.getElem?_eq_none (by simp [rOf]; omega)]
    simp
set_option maxRecDepth 100000 in
theorem rmade_spec (c m : Int) (w0 : World) (m0 : List Res) : PureC Tryd.prog 30 [.int .i32 c, .int .i32 m] w0 m0 (.int .i32 (rMade c m)) := by
  refine Ct.of Tryd.func30 rfl (by kernel_rfl) rfl ?_
  (refine c_sq fun k5 h5 => c_rg <| r_as rfl rfl <| r_nx h5 <| c_sq fun k7 h7 => c_rg <| r_bo Tryd.underlying22 rfl (fun _ => by kernel_rfl) rfl rfl rfl (fun _ => ?_); refine r_as rfl rfl <| r_nx h7 <| c_sq fun k10 h10 => c_rg <| r_as rfl rfl <| r_nx h10 <| c_sq fun k12 h12 => c_rg <| r_bo Tryd.underlying22 rfl (fun _ => by kernel_rfl) rfl rfl rfl (fun _ => ?_); refine r_as rfl rfl <| r_nx h12 <| c_sq fun k15 h15 => c_sq fun k17 h17 => c_rg <| r_as rfl rfl <| r_nx h17 <| c_bl ?_; rotate_left)
  rename_i b1 b2
  refine WC.loop (α := Nat) (fun i => [(0, .int .i32 c), (1, .int .i32 m), (8, .int .i64 i), (5, .slice (some ⟨b1, 0, none⟩) 27 27), (6, .string rOfB), (7, .slice (some ⟨b2, 0, none⟩) 27 27)])
    (fun _ => [.own (some ⟨b2, 0, none⟩) 27 27 (runes rBy) 21 1, .own (some ⟨b1, 0, none⟩) 27 27 (runes rLetters) 21 1]) (fun i => i ≤ 27 ∧ rMade c m = rMadeF c m i (27 - i)) (fun i => 27 - i) 0 ⟨by omega, rfl⟩ ⟨rfl, rfl, rfl, rfl, rfl, rfl, trivial⟩ Mem.keep ?_
  rintro i ⟨hi, he⟩
  by_cases hlt : i < 27
  · obtain ⟨v, hv, ev⟩ := rOfB_at i hlt
    have hb := rOf_bd i
    have e27 : 27 - i = (27 - (i + 1)) + 1 := by omega
    rw [e27, rMadeF] at he
    (refine c_sq fun k30 h30 => c_sq fun k32 h32 => c_rg <| r_mv rfl rfl <| r_mv rfl rfl <| r_ls Tryd.underlying22 rfl rfl <| r_ltT rfl rfl rfl (by omega) <| r_nx h32 <| c_cT rfl <| c_sk <| WE.then_n h30 <| c_sq fun k34 h34 => c_bl <| c_sq fun k36 h36 => c_rg <| r_mv rfl rfl <| r_mv rfl rfl <| r_mv rfl rfl ?_; rotate_left)
    refine r_iS (v := v) rfl rfl rfl rfl (by omega) (by simpa using hv) ?_
    rw [ev]
    (rotate_left)
    refine r_cv (r := .int .i32 (rOf.getD i 0)) rfl (cv_int (k' := .i32) rfl Tryd.underlying21 (w32 (by omega))) rfl ?_
    by_cases h1 : c = rOf.getD i 0
    · by_cases h2 : m = rBy.getD i 0
      · (refine r_eqT rfl rfl rfl (by omega) <| r_mv rfl rfl <| r_mv rfl rfl <| r_mv rfl rfl <| r_mv rfl rfl ?_; rotate_left)
        refine r_im (xs := rBy) (f := (.int .i32 ·)) (Rd.own 0 rfl) rfl rfl rfl rfl rfl rfl (by omega) (by show (i : Int) < 27; omega) ?_
        (rotate_left)
        refine r_li i (xs := rBy) (Rd.own 0 rfl) rfl rfl rfl rfl (by show i < 27; omega) ?_
        (refine r_eqT rfl rfl rfl (by omega) <| r_pT rfl rfl rfl <| r_nx h36 <| c_cT rfl <| c_sq fun k40 h40 => c_rg <| r_mv rfl rfl <| r_mv rfl rfl ?_; rotate_left)
        refine r_im (xs := rLetters) (f := (.int .i32 ·)) (Rd.own 1 rfl) rfl rfl rfl rfl rfl rfl (by omega) (by show (i : Int) < 27; omega) ?_
        (rotate_left)
        refine r_li i (xs := rLetters) (Rd.own 1 rfl) rfl rfl rfl rfl (by show i < 27; omega) ?_
        (refine r_as rfl rfl <| r_nx h40 <| c_rt <| WE.blk_r <| WE.then_r <| WE.then_r <| WE.blk_r <| WE.then_r ?_; rotate_left)
        exact WE.ret1 () rfl rfl (by rw [he, if_pos ⟨h1, h2⟩]; rfl) trivial Mem.drop
      · (refine r_eqT rfl rfl rfl (by omega) <| r_mv rfl rfl <| r_mv rfl rfl <| r_mv rfl rfl <| r_mv rfl rfl ?_; rotate_left)
        refine r_im (xs := rBy) (f := (.int .i32 ·)) (Rd.own 0 rfl) rfl rfl rfl rfl rfl rfl (by omega) (by show (i : Int) < 27; omega) ?_
        (rotate_left)
        refine r_li i (xs := rBy) (Rd.own 0 rfl) rfl rfl rfl rfl (by show i < 27; omega) ?_
        (refine r_eqF rfl rfl rfl (by omega) <| r_pT rfl rfl rfl <| r_nx h36 <| c_cF rfl <| c_sk <| WE.blk_n <| WE.then_n h34 <| c_rg <| r_mv rfl rfl <| r_ad rfl rfl rfl (wadd64 (by omega)) <| r_as rfl rfl <| r_nl ?_; rotate_left)
        exact WE.back (i + 1) ⟨by omega, by rw [he, if_neg (fun h => h2 h.2)]⟩ (by omega) ⟨rfl, rfl, rfl, rfl, rfl, rfl, trivial⟩ Mem.keep
    · (refine r_eqF rfl rfl rfl (by omega) <| r_mv rfl rfl <| r_sk rfl rfl <| r_sk rfl rfl <| r_sk rfl rfl <| r_sk rfl rfl <| r_sk rfl rfl <| r_sk rfl rfl <| r_pF rfl rfl rfl <| r_nx h36 <| c_cF rfl <| c_sk <| WE.blk_n <| WE.then_n h34 <| c_rg <| r_mv rfl rfl <| r_ad rfl rfl rfl (wadd64 (by omega)) <| r_as rfl rfl <| r_nl ?_; rotate_left)
      exact WE.back (i + 1) ⟨by omega, by rw [he, if_neg (fun h => h1 h.1)]⟩ (by omega) ⟨rfl, rfl, rfl, rfl, rfl, rfl, trivial⟩ Mem.keep
  · (refine c_sq fun k23 h23 => c_sq fun k25 h25 => c_rg <| r_mv rfl rfl <| r_mv rfl rfl <| r_ls Tryd.underlying22 rfl rfl <| r_ltF rfl rfl rfl (by omega) <| r_nx h25 <| c_cF rfl <| c_ex <| WE.then_x <| WE.then_x <| WE.blk_x <| WE.then_n h15 <| c_sq fun k27 h27 => c_rg <| r_as rfl rfl <| r_nx h27 <| c_rt ?_; rotate_left)
    exact WE.ret1 () rfl rfl (by rw [he, show 27 - i = 0 by omega]; rfl) trivial Mem.drop

/-- Letters and marks put together, as the document says. -/
def rComp : List Int → List Int
  | [] => []
  | [x] => [x]
  | x :: y :: r => if rMade x y ≠ 0 then rMade x y :: rComp r else x :: rComp (y :: r)
theorem rComp_two {l : List Int} {i : Nat} (h : i + 1 < l.length) : rComp (l.drop i) = if rMade (l.getD i 0) (l.getD (i + 1) 0) ≠ 0 then rMade (l.getD i 0) (l.getD (i + 1) 0) :: rComp (l.drop (i + 2)) else l.getD i 0 :: rComp (l.drop (i + 1)) := by
  rw [List.drop_eq_getElem_cons (show i < l.length by omega), List.drop_eq_getElem_cons (show i + 1 < l.length by omega), rComp]
  have e1 : l.getD i 0 = l[i] := by simp [show i < l.length by omega]
  have e2 : l.getD (i + 1) 0 = l[i + 1] := by simp [h]
  rw [e1, e2]
theorem rComp_one {l : List Int} {i : Nat} (h : i < l.length) (h2 : ¬ i + 1 < l.length) : rComp (l.drop i) = l.getD i 0 :: rComp (l.drop (i + 1)) := by
  rw [List.drop_eq_getElem_cons h, List.drop_eq_nil_of_le (show l.length ≤ i + 1 by omega)]
  simp [rComp, h]
set_option maxRecDepth 100000 in
theorem rcomp_spec (A : Option Addr) (c : Nat) (l : List Int) (hn : l.length ≤ 1000000000000) (w0 : World) (m0 : List Res) (hA : Rd w0 m0 A (runes l)) :
    Ct (α := Option Addr × Nat) Tryd.prog 12 [.slice A l.length c] w0 [] m0 (fun _ => True) (fun p => SlR p (rComp l)) (fun p => [OwnR p (rComp l)]) := by
  refine Ct.of Tryd.func12 rfl (by kernel_rfl) rfl ?_
  (refine c_sq fun k8 h8 => c_rg <| r_as rfl rfl <| r_nx h8 <| c_sq fun k10 h10 => c_rg <| r_as rfl rfl <| r_nx h10 <| c_sq fun k12 h12 => c_rg <| r_as rfl rfl <| r_nx h12 <| c_sq fun k14 h14 => c_bl ?_; rotate_left)
  refine WC.loop (α := Nat × (Option Addr × Nat) × List Int) (fun x => [(0, .slice A l.length c), (4, .int .i64 x.1), (3, SlR x.2.1 x.2.2)])
    (fun x => [OwnR x.2.1 x.2.2]) (fun x => x.1 ≤ l.length ∧ x.2.2.length ≤ x.1 ∧ x.2.2 ++ rComp (l.drop x.1) = rComp l) (fun x => l.length - x.1) (0, (none, 0), []) ⟨by simp, by simp, rfl⟩ ⟨rfl, rfl, rfl, trivial⟩ (Mem.nilOwn _ _) ?_
  rintro ⟨i, p, out⟩ ⟨hi, ho, he⟩
  dsimp only at hi ho he ⊢
  by_cases hlt : i < l.length
  · by_cases h2 : i + 1 < l.length
    · rw [rComp_two h2] at he
      (refine c_sq fun k25 h25 => c_sq fun k27 h27 => c_rg <| r_mv rfl rfl <| r_mv rfl rfl <| r_ls Tryd.underlying22 rfl rfl <| r_ltT rfl rfl rfl (by omega) <| r_nx h27 <| c_cT rfl <| c_sk <| WE.then_n h25 <| c_bl <| c_sq fun k29 h29 => c_dr rfl (by kernel_rfl) (by kernel_rfl) <| r_mv rfl rfl <| r_ad rfl rfl rfl (wadd64 (by omega)) <| r_mv rfl rfl <| r_ls Tryd.underlying22 rfl rfl <| r_ltT rfl rfl rfl (by omega) <| r_mv rfl rfl <| r_mv rfl rfl <| r_mv rfl rfl <| r_im (hA.app _) Tryd.underlying22 (by kernel_rfl) rfl rfl rfl rfl (by omega) (by omega) <| r_li (i) (hA.app _) Tryd.underlying21 rfl rfl rfl (by omega) <| r_mv rfl rfl <| r_mv rfl rfl <| r_ad rfl rfl rfl (wadd64 (by omega)) <| r_im (hA.app _) Tryd.underlying22 (by kernel_rfl) rfl rfl rfl rfl (by omega) (by omega) <| r_li (i + 1) (hA.app _) Tryd.underlying21 rfl rfl rfl (by omega) ?_; rotate_left)
      refine WX.pure rfl rfl (rmade_spec _ _ _ _) rfl rfl ?_
      by_cases hm : rMade (l.getD i 0) (l.getD (i + 1) 0) = 0
      · rw [hm]
        rw [if_neg (fun x => x hm)] at he
        (refine r_neF rfl rfl rfl (by omega) <| r_pT rfl rfl rfl <| r_nx h29 <| c_cF rfl <| c_sq fun k33 h33 => c_rg <| r_mv rfl rfl <| r_mv rfl rfl <| r_mv rfl rfl <| r_im (hA.app _) Tryd.underlying22 (by kernel_rfl) rfl rfl rfl rfl (by omega) (by omega) <| r_li (i) (hA.app _) Tryd.underlying21 rfl rfl rfl (by omega) <| r_bo Tryd.underlying22 rfl (fun _ => by kernel_rfl) rfl rfl rfl (fun _ => ?_); rotate_left)
        refine r_am (ys := [l.getD i 0]) 1 (z := .int .i32 0) (by_ := 4) (f := (.int .i32 ·)) Tryd.underlying22 (by kernel_rfl) rfl rfl rfl rfl (Rd.own 0 rfl) rfl (fun _ => rfl) (by omega) rfl (fun q _ => ?_)
        (refine r_as rfl rfl <| r_nx h33 <| c_rg <| r_mv rfl rfl <| r_ad rfl rfl rfl (wadd64 (by omega)) <| r_as rfl rfl <| r_nl <| WE.blk_n ?_; rotate_left)
        exact WE.back (i + 1, q, out ++ [l.getD i 0]) ⟨by dsimp only; omega, by simp; omega, by simpa using he⟩ (by dsimp only; omega) ⟨rfl, rfl, rfl, trivial⟩ (Mem.pick [1] (by decide) rfl)
      · rw [if_pos hm] at he
        (refine r_neT rfl rfl rfl (by omega) <| r_pT rfl rfl rfl <| r_nx h29 <| c_cT rfl <| c_sq fun k33 h33 => ?_)
        refine WC.held [] rfl (by kernel_rfl) ?_
        refine WH.take (d := 27) rfl (by kernel_rfl) (Qv.move rfl) rfl rfl rfl Mem.drop ?_
        refine WH.take (d := 28) rfl (by kernel_rfl) (Qv.move rfl) rfl rfl rfl Mem.drop ?_
        refine WH.take (d := 29) rfl (by kernel_rfl) (Qv.move rfl) rfl rfl rfl Mem.drop ?_
        refine WH.take (d := 30) rfl (by kernel_rfl) (Qv.indexMap Tryd.underlying22 (by kernel_rfl) rfl rfl (hA.app _) rfl (by omega) (by omega)) rfl rfl rfl Mem.drop ?_
        refine WH.take (d := 31) (v := .int .i32 (l.getD i 0)) rfl (by kernel_rfl) (Qv.load_rd (i := i) Tryd.underlying21 rfl rfl (hA.app _) (by simp [hlt])) rfl rfl rfl Mem.drop ?_
        refine WH.take (d := 32) rfl (by kernel_rfl) (Qv.move rfl) rfl rfl rfl Mem.drop ?_
        refine WH.take (d := 33) rfl (by kernel_rfl) (Qv.move rfl) rfl rfl rfl Mem.drop ?_
        refine WH.take (d := 34) rfl (by kernel_rfl) (Qv.add rfl rfl (wadd64 (a := (i : Int)) (b := 1) (by omega))) rfl rfl rfl Mem.drop ?_
        refine WH.take (d := 35) rfl (by kernel_rfl) (Qv.indexMap Tryd.underlying22 (by kernel_rfl) rfl rfl (hA.app _) rfl (by omega) (by omega)) rfl rfl rfl Mem.drop ?_
        refine WH.take (d := 36) (v := .int .i32 (l.getD (i + 1) 0)) rfl (by kernel_rfl) (Qv.load_rd (i := i + 1) Tryd.underlying21 rfl rfl (hA.app _) (by simp [h2])) rfl rfl rfl Mem.drop ?_
        refine WH.call (m1 := []) (m2 := [OwnR p out]) rfl (by kernel_rfl) rfl rfl rfl (rmade_spec (l.getD i 0) (l.getD (i + 1) 0) _ _) rfl rfl (fun _ => Mem.drop) (fun _ _ => ?_)
        refine WH.bo rfl (by kernel_rfl) Tryd.underlying22 rfl (fun _ => by kernel_rfl) rfl rfl rfl rfl (fun _ => Mem.drop) (fun b1 => ?_)
        refine WH.am (ys := [rMade (l.getD i 0) (l.getD (i + 1) 0)]) 1 (z := .int .i32 0) (by_ := 4) (f := (.int .i32 ·)) rfl (by kernel_rfl) Tryd.underlying22 (by kernel_rfl) rfl rfl rfl rfl (Rd.own 0 rfl) rfl (fun _ => rfl) (by omega) rfl rfl (fun _ => Mem.drop) (fun q => ?_)
        refine WH.qv (d := 3) rfl (by kernel_rfl) (Qv.assign rfl) rfl rfl rfl Mem.drop ?_
        refine WH.nil rfl (by kernel_rfl) ?_
        (refine WE.then_n h33 <| c_rg <| r_mv rfl rfl <| r_ad rfl rfl rfl (wadd64 (by omega)) <| r_as rfl rfl <| r_nl <| WE.blk_n ?_; rotate_left)
        exact WE.back (i + 2, q, out ++ [rMade (l.getD i 0) (l.getD (i + 1) 0)]) ⟨by dsimp only; omega, by simp; omega, by simpa using he⟩ (by dsimp only; omega) ⟨rfl, rfl, rfl, trivial⟩ (Mem.pick [1] (by decide) rfl)
    · rw [rComp_one hlt h2] at he
      (refine c_sq fun k25 h25 => c_sq fun k27 h27 => c_rg <| r_mv rfl rfl <| r_mv rfl rfl <| r_ls Tryd.underlying22 rfl rfl <| r_ltT rfl rfl rfl (by omega) <| r_nx h27 <| c_cT rfl <| c_sk <| WE.then_n h25 <| c_bl <| c_sq fun k29 h29 => c_dr rfl (by kernel_rfl) (by kernel_rfl) <| r_mv rfl rfl <| r_ad rfl rfl rfl (wadd64 (by omega)) <| r_mv rfl rfl <| r_ls Tryd.underlying22 rfl rfl <| r_ltF rfl rfl rfl (by omega) <| r_mv rfl rfl <| r_sk rfl rfl <| r_sk rfl rfl <| r_sk rfl rfl <| r_sk rfl rfl <| r_sk rfl rfl <| r_sk rfl rfl <| r_sk rfl rfl <| r_sk rfl rfl <| r_sk rfl rfl <| r_sk rfl rfl <| r_sk rfl rfl <| r_pF rfl rfl rfl <| r_nx h29 <| c_cF rfl <| c_sq fun k31 h31 => c_rg <| r_mv rfl rfl <| r_mv rfl rfl <| r_mv rfl rfl <| r_im (hA.app _) Tryd.underlying22 (by kernel_rfl) rfl rfl rfl rfl (by omega) (by omega) <| r_li (i) (hA.app _) Tryd.underlying21 rfl rfl rfl (by omega) <| r_bo Tryd.underlying22 rfl (fun _ => by kernel_rfl) rfl rfl rfl (fun _ => ?_); rotate_left)
      refine r_am (ys := [l.getD i 0]) 1 (z := .int .i32 0) (by_ := 4) (f := (.int .i32 ·)) Tryd.underlying22 (by kernel_rfl) rfl rfl rfl rfl (Rd.own 0 rfl) rfl (fun _ => rfl) (by omega) rfl (fun q _ => ?_)
      (refine r_as rfl rfl <| r_nx h31 <| c_rg <| r_mv rfl rfl <| r_ad rfl rfl rfl (wadd64 (by omega)) <| r_as rfl rfl <| r_nl <| WE.blk_n ?_; rotate_left)
      exact WE.back (i + 1, q, out ++ [l.getD i 0]) ⟨by dsimp only; omega, by simp; omega, by simpa using he⟩ (by dsimp only; omega) ⟨rfl, rfl, rfl, trivial⟩ (Mem.pick [1] (by decide) rfl)
  · have e : l.drop i = [] := List.drop_eq_nil_of_le (by omega)
    rw [e, rComp, List.append_nil] at he
    rw [he]
    (refine c_sq fun k27 h27 => c_sq fun k29 h29 => c_rg <| r_mv rfl rfl <| r_mv rfl rfl <| r_ls Tryd.underlying22 rfl rfl <| r_ltF rfl rfl rfl (by omega) <| r_nx h29 <| c_cF rfl <| c_ex <| WE.then_x <| WE.then_x <| WE.blk_x <| WE.then_n h14 <| c_sq fun k31 h31 => c_rg <| r_mv rfl rfl <| r_as rfl rfl <| r_nx h31 <| c_rt ?_; rotate_left)
    exact WE.ret1 p rfl rfl rfl trivial Mem.keep
end Go.Proofs.YthnabbidlmihbaaDoor
