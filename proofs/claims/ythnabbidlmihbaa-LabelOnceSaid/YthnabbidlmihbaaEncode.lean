/- puny.Encode: the walk. -/
import Derived.Test.YthnabbidlmihbaaLawEnc
import Derived.Test.YthnabbidlmihbaaLeaf
import Derived.Test.YthnabbidlmihbaaCompose
namespace Go.Proofs.Ythnabbidlmihbaa
open Go.RowKit Go.Gp

def Sc (l : List Int) : Prop := ∀ c ∈ l, ScP c
theorem Sc.getD {l : List Int} (h : Sc l) {i : Nat} (hi : i < l.length) : ScP (l.getD i 0) := h _ (by simp [hi])
set_option maxRecDepth 100000 in
theorem encode_spec (A : Option Addr) (c : Nat) (l : List Int) (hn : l.length ≤ 65536) (hl : Sc l) (w0 : World) (m0 : List Res) (hA : Rd w0 m0 A (runes l)) :
    PureC Try.prog 24 [.slice A l.length c] w0 m0 (.tuple #[.string (strOf (encP l)), .nilIface]) := by
  have hany : l.any (fun c => !decide (ScP c)) = false := by
    rw [List.any_eq_false]
    intro x hx
    simp [hl x hx]
  refine Ct.of Try.func24 rfl (by kernel_rfl) rfl ?_
  (refine c_sq fun k10 h10 => c_rg <| r_as rfl rfl <| r_as rfl rfl <| r_nx h10 <| c_sq fun k12 h12 => c_rg <| r_as rfl rfl <| r_nx h12 <| c_sq fun k14 h14 => c_sq fun k16 h16 => c_rg <| r_mv rfl rfl <| r_ls Try.underlying22 rfl rfl <| r_gtF rfl rfl rfl (by omega) <| r_mv rfl rfl <| r_mv rfl rfl <| r_mv rfl rfl ?_; rotate_left)
  refine WX.pure (v := .bool false) rfl rfl ?_ rfl rfl ?_
  · have := containsFunc_spec A c l 44 [] (fun c => !decide (ScP c)) (by omega) w0 m0 hA (fun c m => notValid2_spec c w0 (m ++ m0))
    rw [hany] at this
    exact this
  (refine r_pF rfl rfl rfl <| r_nx h16 <| c_cF rfl <| c_sk <| WE.then_n h14 <| c_sq fun k18 h18 => c_rg <| r_al (z := .agg #[.pointer none, .slice none 0 0]) (cs := [.pointer none, .slice none 0 0]) (fun _ => by kernel_rfl) rfl rfl (fun _ => ?_); refine r_nx h18 <| c_sq fun k21 h21 => c_sq fun k23 h23 => c_rg <| r_mv rfl rfl <| r_ls Try.underlying22 rfl rfl <| r_mv rfl rfl <| r_nx h23 <| c_bl ?_; rotate_left)
  rename_i g
  refine WC.loop (α := Nat × Bool × (Option Addr × Nat)) (fun x => [(0, .slice A l.length c), (5, .pointer (some ⟨g, 0, none⟩)), (27, .slice A l.length c), (28, .int .i64 l.length), (29, .int .i64 x.1)])
    (fun x => [BB x.2.1 g x.2.2 (basics (l.take x.1)), OwnB x.2.2 (basics (l.take x.1))]) (fun x => x.1 ≤ l.length ∧ (basics (l.take x.1)).length ≤ x.1 ∧ (basics (l.take x.1) = [] → x.2.2 = (none, 0))) (fun x => l.length - x.1)
    (0, false, (none, 0)) ⟨by simp, by simp [basics], fun _ => rfl⟩ ⟨rfl, rfl, rfl, rfl, rfl, trivial⟩ (fun w hw => Mem.pick (m' := [BB false g (none, 0) [], OwnB (none, 0) []]) [1, 0] (by decide) rfl w (Mem.addNil _ _ w hw)) ?_
  rintro ⟨i, u, p⟩ ⟨hi, hbl, hbp⟩
  dsimp only at hi hbl hbp ⊢
  by_cases hlt : i < l.length
  · have hc := hl.getD hlt
    have hs := basics_snoc (l.take i) (l.getD i 0)
    rw [← take_next hlt] at hs
    by_cases hc2 : l.getD i 0 < 128
    · rw [if_pos hc2] at hs
      have hb := b8_toNat hc.1.1 (by omega)
      (refine c_sq fun k38 h38 => c_rg <| r_ltT rfl rfl rfl (by omega) <| r_nx h38 <| c_sq fun k40 h40 => c_cT rfl <| c_sk <| WE.then_n h40 <| c_sq fun k42 h42 => c_bl <| c_sq fun k44 h44 => c_rg <| r_im (hA.app _) Try.underlying22 (by kernel_rfl) rfl rfl rfl rfl (by omega) (by omega) <| r_li (i) (hA.app _) Try.underlying21 rfl rfl rfl (by omega) <| r_as rfl rfl <| r_nx h44 <| c_sq fun k46 h46 => c_rg <| r_mv rfl rfl <| r_ltT rfl rfl rfl (by omega) <| r_nx h46 <| c_cT rfl <| c_rg <| r_mv rfl rfl ?_; rotate_left)
      rw [← hb]
      refine WX.call (m1 := [BB u g p (basics (l.take i)), OwnB p (basics (l.take i))]) (m2 := []) rfl rfl rfl (writeAscii_spec u g p (basics (l.take i)) (b8 (l.getD i 0)) (by omega) (by omega) _ _) rfl rfl (fun p2 _ => ?_)
      rw [← hs]
      (refine r_nl <| WE.blk_n <| WE.then_n h42 <| c_rg <| r_ad rfl rfl rfl (wadd64 (by omega)) <| r_mv rfl rfl <| r_nl ?_; rotate_left)
      exact WE.back (i + 1, true, p2) ⟨by dsimp only; omega, by dsimp only; rw [hs]; simp; omega, fun h => by dsimp only at h; rw [hs] at h; simp at h⟩ (by dsimp only; omega) ⟨rfl, rfl, rfl, rfl, rfl, trivial⟩ Mem.keep
    · rw [if_neg hc2] at hs
      (refine c_sq fun k37 h37 => c_rg <| r_ltT rfl rfl rfl (by omega) <| r_nx h37 <| c_sq fun k39 h39 => c_cT rfl <| c_sk <| WE.then_n h39 <| c_sq fun k41 h41 => c_bl <| c_sq fun k43 h43 => c_rg <| r_im (hA.app _) Try.underlying22 (by kernel_rfl) rfl rfl rfl rfl (by omega) (by omega) <| r_li (i) (hA.app _) Try.underlying21 rfl rfl rfl (by omega) <| r_as rfl rfl <| r_nx h43 <| c_sq fun k45 h45 => c_rg <| r_mv rfl rfl <| r_ltF rfl rfl rfl (by omega) <| r_nx h45 <| c_cF rfl <| c_sk <| WE.blk_n <| WE.then_n h41 <| c_rg <| r_ad rfl rfl rfl (wadd64 (by omega)) <| r_mv rfl rfl <| r_nl ?_; rotate_left)
      exact WE.back (i + 1, u, p) ⟨by dsimp only; omega, by dsimp only; rw [hs]; omega, fun h => by dsimp only at h; rw [hs] at h; exact hbp h⟩ (by dsimp only; omega) ⟨rfl, rfl, rfl, rfl, rfl, trivial⟩ (by dsimp only; rw [hs]; exact Mem.keep)
  · have e : l.take i = l := List.take_of_length_le (by omega)
    rw [e] at hbl hbp ⊢
    (refine c_sq fun k35 h35 => c_rg <| r_ltF rfl rfl rfl (by omega) <| r_nx h35 <| c_sq fun k37 h37 => c_cF rfl <| c_ex <| WE.then_x <| WE.then_x <| WE.blk_x <| WE.then_n h21 <| c_sq fun k39 h39 => c_rg ?_; rotate_left)
    refine WX.call (m1 := [BB u g p (basics l)]) (m2 := [OwnB p (basics l)]) rfl rfl rfl (bLen_spec u g p (basics l) _ _) rfl rfl (fun _ _ => ?_)
    obtain ⟨out0, ho⟩ : ∃ o, o = (if 0 < (basics l).length then basics l ++ [45] else []) := ⟨_, rfl⟩
    have hcnt := basics_length l
    have hcl : (basics l).length ≤ l.length := by omega
    have hol : out0.length ≤ (basics l).length + 1 := by rw [ho]; split <;> simp
    have hE : encP l = encOut l (basics l).length (l.length + 1) 128 (0, 72, (basics l).length, out0) := by rw [ho]; rfl
    (refine r_as rfl rfl <| r_nx h39 ?_)
    refine WC.cut (α := Bool × (Option Addr × Nat)) (fun x => [(0, .slice A l.length c), (5, .pointer (some ⟨g, 0, none⟩)), (8, .int .i64 (basics l).length)]) (fun x => [BB x.1 g x.2 out0, OwnB x.2 out0]) (fun x => out0 = [] → x.2 = (none, 0)) ?_ ?_
    · by_cases h0 : 0 < (basics l).length
      · rw [if_pos h0] at ho
        subst ho
        (refine c_sq fun k53 h53 => c_rg <| r_mv rfl rfl <| r_gtT rfl rfl rfl (by omega) <| r_nx h53 <| c_cT rfl <| c_rg ?_; rotate_left)
        refine WX.call (m1 := [BB u g p (basics l), OwnB p (basics l)]) (m2 := []) rfl rfl rfl (writeByte_spec u g p (basics l) 45 (by omega) _ _) rfl rfl (fun p2 _ => ?_)
        (refine r_nl ?_; rotate_left)
        exact WE.met (true, p2) (fun h => by simp at h) ⟨rfl, rfl, rfl, trivial⟩ Mem.keep
      · have hb0 : basics l = [] := List.eq_nil_of_length_eq_zero (by omega)
        rw [if_neg h0] at ho
        subst ho
        (refine c_sq fun k54 h54 => c_rg <| r_mv rfl rfl <| r_gtF rfl rfl rfl (by omega) <| r_nx h54 <| c_cF rfl <| c_sk ?_; rotate_left)
        exact WE.met (u, p) (fun _ => hbp hb0) ⟨rfl, rfl, rfl, trivial⟩ (by dsimp only; rw [hb0]; exact Mem.keep)
    · clear hbp hbl hlt hi e ho
      rintro ⟨u, p⟩ hp
      dsimp only at hp ⊢
      have hmx : ∀ x ∈ l, x ≤ 1114111 := fun x hx => (hl x hx).1.2
      (refine c_sq fun k53 h53 => c_rg <| r_as rfl rfl <| r_as rfl rfl <| r_as rfl rfl <| r_nx h53 <| c_sq fun k55 h55 => c_sq fun k57 h57 => c_rg <| r_mv rfl rfl <| r_as rfl rfl <| r_nx h57 <| c_bl ?_; rotate_left)
      refine WC.loop (α := Nat × Int × ES × Bool × (Option Addr × Nat)) (fun x => [(0, .slice A l.length c), (5, .pointer (some ⟨g, 0, none⟩)), (8, .int .i64 (basics l).length), (9, .int .i64 x.2.1), (10, .int .i64 x.2.2.1.1), (11, .int .i64 x.2.2.1.2.1), (12, .int .i64 x.2.2.1.2.2.1)])
        (fun x => [BB x.2.2.2.1 g x.2.2.2.2 x.2.2.1.2.2.2, OwnB x.2.2.2.2 x.2.2.1.2.2.2])
        (fun x => encOut l (basics l).length x.1 x.2.1 x.2.2.1 = encP l ∧ l.length < x.1 + x.2.2.1.2.2.1 ∧ x.2.2.1.2.2.1 = below x.2.1 l ∧ (128 ≤ x.2.1 ∧ x.2.1 ≤ 1114112) ∧ (0 ≤ x.2.2.1.1 ∧ x.2.2.1.1 ≤ x.2.1 * (l.length + 1)) ∧ (0 ≤ x.2.2.1.2.1 ∧ x.2.2.1.2.1 ≤ 1000) ∧ x.2.2.1.2.2.2.length ≤ l.length + 1 + 20 * x.2.2.1.2.2.1 ∧ (x.2.2.1.2.2.2 = [] → x.2.2.2.2 = (none, 0)))
        (fun x => l.length - x.2.2.1.2.2.1) (l.length + 1, 128, (0, 72, (basics l).length, out0), u, p)
        ⟨hE.symm, by dsimp only; omega, hcnt, by dsimp only; omega, by dsimp only; omega, by dsimp only; omega, by dsimp only; omega, hp⟩ ⟨rfl, rfl, rfl, rfl, rfl, rfl, rfl, trivial⟩ Mem.keep ?_
      clear hp u p hol hE out0
      rintro ⟨f, n, ⟨delta, bias, h, out⟩, u, p⟩ ⟨e1, e2, e3, e4, e5, e6, e7, e8⟩
      dsimp only at e1 e2 e3 e4 e5 e6 e7 e8 ⊢
      have hbl2 : below n l ≤ l.length := List.countP_le_length
      by_cases hlt : h < l.length
      · cases f with
        | zero => omega
        | succ f =>
          rw [encOut, if_pos hlt] at e1
          obtain ⟨hm1, hm2⟩ := minGe_mem hmx (n := n) (by omega)
          have hmb := hmx _ hm1
          have q0 : 0 ≤ (minGe n l - n) * ((h : Int) + 1) := Int.mul_nonneg (by omega) (by omega)
          have q1 : (minGe n l - n) * ((h : Int) + 1) ≤ (minGe n l - n) * ((l.length : Int) + 1) := Int.mul_le_mul_of_nonneg_left (by omega) (by omega)
          have q2 : n * ((l.length : Int) + 1) + (minGe n l - n) * ((l.length : Int) + 1) = minGe n l * ((l.length : Int) + 1) := by rw [← Int.add_mul]; congr 1; omega
          have q3 : minGe n l * ((l.length : Int) + 1) ≤ 1114111 * 65537 := Int.mul_le_mul hmb (by omega) (by omega) (by omega)
          have q4 : 0 ≤ n * ((l.length : Int) + 1) := Int.mul_nonneg (by omega) (by omega)
          have q5 : (minGe n l + 1) * ((l.length : Int) + 1) = minGe n l * ((l.length : Int) + 1) + ((l.length : Int) + 1) := by rw [Int.add_mul, Int.one_mul]
          (refine c_sq fun k93 h93 => c_sq fun k95 h95 => c_rg <| r_mv rfl rfl <| r_mv rfl rfl <| r_ls Try.underlying22 rfl rfl <| r_ltT rfl rfl rfl (by omega) <| r_nx h95 <| c_cT rfl <| c_sk <| WE.then_n h93 <| c_bl <| c_sq fun k97 h97 => c_rg <| r_as rfl rfl <| r_nx h97 <| c_sq fun k99 h99 => c_sq fun k101 h101 => c_rg <| r_mv rfl rfl <| r_ls Try.underlying22 rfl rfl <| r_mv rfl rfl <| r_nx h101 <| c_bl ?_; rotate_left)
          refine WC.loop (α := Nat) (fun i => [(0, .slice A l.length c), (5, .pointer (some ⟨g, 0, none⟩)), (8, .int .i64 (basics l).length), (9, .int .i64 n), (10, .int .i64 delta), (11, .int .i64 bias), (12, .int .i64 h), (47, .slice A l.length c), (48, .int .i64 l.length), (49, .int .i64 i), (13, .int .i32 (minGe n (l.take i)))])
            (fun _ => [BB u g p out, OwnB p out]) (fun i => i ≤ l.length) (fun i => l.length - i) 0 (by omega) ⟨rfl, rfl, rfl, rfl, rfl, rfl, rfl, rfl, rfl, rfl, rfl, trivial⟩ Mem.keep ?_
          intro i hi
          by_cases hli : i < l.length
          · have hc := hl.getD hli
            have hs := minGe_snoc n (l.take i) (l.getD i 0)
            rw [← take_next hli] at hs
            (refine c_sq fun k109 h109 => c_rg <| r_ltT rfl rfl rfl (by omega) <| r_nx h109 <| c_sq fun k111 h111 => c_cT rfl <| c_sk <| WE.then_n h111 <| c_sq fun k113 h113 => c_bl <| c_sq fun k115 h115 => c_rg <| r_im (hA.app _) Try.underlying22 (by kernel_rfl) rfl rfl rfl rfl (by omega) (by omega) <| r_li (i) (hA.app _) Try.underlying21 rfl rfl rfl (by omega) <| r_as rfl rfl <| r_nx h115 <| c_sq fun k117 h117 => c_rg <| r_mv rfl rfl <| r_cv rfl (cv_int (k' := .i64) rfl Try.underlying3 (w64 (by omega))) rfl <| r_mv rfl rfl ?_; rotate_left)
            by_cases hc2 : n ≤ l.getD i 0
            · rw [if_pos hc2] at hs
              (refine r_geT rfl rfl rfl (by omega) <| r_nx h117 <| c_cT rfl <| c_rg <| r_mv rfl rfl <| r_mv rfl rfl <| r_mn rfl rfl rfl <| r_as rfl rfl <| r_nl <| WE.blk_n <| WE.then_n h113 <| c_rg <| r_ad rfl rfl rfl (wadd64 (by omega)) <| r_mv rfl rfl <| r_nl ?_; rotate_left)
              rw [← hs]
              (rotate_left)
              exact WE.back (i + 1) (by omega) (by omega) ⟨rfl, rfl, rfl, rfl, rfl, rfl, rfl, rfl, rfl, rfl, rfl, trivial⟩ Mem.keep
            · rw [if_neg hc2] at hs
              (refine r_geF rfl rfl rfl (by omega) <| r_nx h117 <| c_cF rfl <| c_sk <| WE.blk_n <| WE.then_n h113 <| c_rg <| r_ad rfl rfl rfl (wadd64 (by omega)) <| r_mv rfl rfl <| r_nl ?_; rotate_left)
              exact WE.back (i + 1) (by omega) (by omega) ⟨rfl, rfl, rfl, rfl, rfl, rfl, rfl, rfl, rfl, rfl, by rw [hs]; rfl, trivial⟩ Mem.keep
          · rw [show l.take i = l from List.take_of_length_le (by omega)]
            (refine c_sq fun k106 h106 => c_rg <| r_ltF rfl rfl rfl (by omega) <| r_nx h106 <| c_sq fun k108 h108 => c_cF rfl <| c_ex <| WE.then_x <| WE.then_x <| WE.blk_x <| WE.then_n h99 <| c_sq fun k110 h110 => c_rg <| r_mv rfl rfl <| r_mv rfl rfl <| r_cv rfl (cv_int (k' := .i64) rfl Try.underlying3 (w64 (by omega))) rfl <| r_mv rfl rfl <| r_su rfl rfl rfl (wsub64 (by omega)) <| r_mv rfl rfl <| r_ad rfl rfl rfl (wadd64 (by omega)) <| r_mu rfl rfl rfl (wmul64 (by omega)) <| r_ad rfl rfl rfl (wadd64 (by omega)) <| r_as rfl rfl <| r_nx h110 <| c_sq fun k112 h112 => c_rg <| r_mv rfl rfl <| r_cv rfl (cv_int (k' := .i64) rfl Try.underlying3 (w64 (by omega))) rfl <| r_as rfl rfl <| r_nx h112 <| c_sq fun k114 h114 => c_sq fun k116 h116 => c_rg <| r_mv rfl rfl <| r_ls Try.underlying22 rfl rfl <| r_mv rfl rfl <| r_nx h116 <| c_bl ?_; rotate_left)
            (rotate_left)
            (rotate_left)
            obtain ⟨s0, hs0⟩ : ∃ s0 : ES, s0 = (delta + (minGe n l - n) * ((h : Int) + 1), bias, h, out) := ⟨_, rfl⟩
            have hd0 : s0.1 = delta + (minGe n l - n) * ((h : Int) + 1) := by rw [hs0]
            have hb0 : s0.2.1 = bias := by rw [hs0]
            have hh0 : s0.2.2.1 = h := by rw [hs0]
            have ho0 : s0.2.2.2 = out := by rw [hs0]
            refine WC.loop (α := Nat × ES × Bool × (Option Addr × Nat)) (fun x => [(0, .slice A l.length c), (5, .pointer (some ⟨g, 0, none⟩)), (8, .int .i64 (basics l).length), (9, .int .i64 (minGe n l)), (10, .int .i64 x.2.1.1), (11, .int .i64 x.2.1.2.1), (12, .int .i64 x.2.1.2.2.1), (72, .slice A l.length c), (73, .int .i64 l.length), (74, .int .i64 x.1)])
              (fun x => [BB x.2.2.1 g x.2.2.2 x.2.1.2.2.2, OwnB x.2.2.2 x.2.1.2.2.2]) (fun x => x.1 ≤ l.length ∧ encIn (minGe n l) (basics l).length (l.take x.1) s0 = x.2.1 ∧ (x.2.1.2.2.2 = [] → x.2.2.2 = (none, 0))) (fun x => l.length - x.1)
              (0, (delta + (minGe n l - n) * ((h : Int) + 1), bias, h, out), u, p) ⟨by simp, by rw [hs0]; rfl, e8⟩ ⟨rfl, rfl, rfl, rfl, rfl, rfl, rfl, rfl, rfl, rfl, trivial⟩ Mem.keep ?_
            rintro ⟨i, ⟨dl, bi, hh, o⟩, u, p⟩ ⟨hi, he, hp⟩
            dsimp only at hi he hp ⊢
            have htl : (l.take i).length = i := by simp; omega
            have pr := encIn_props (minGe n l) (basics l).length s0 (by omega) (by omega) i (l.take i) htl (by omega)
            rw [he] at pr
            obtain ⟨p1, p2, p3, p4⟩ := pr
            have hcp : (l.take i).countP (fun c => decide (c = minGe n l)) ≤ (l.take i).length := List.countP_le_length
            dsimp only at p1 p2 p3 p4
            rw [ho0] at p4
            rw [hh0] at p3
            by_cases hli : i < l.length
            · have hc := hl.getD hli
              have hs := encIn_snoc (minGe n l) (basics l).length (l.take i) (l.getD i 0) s0
              rw [← take_next hli, he] at hs
              unfold encStep at hs
              dsimp only at hs
              (refine c_sq fun k148 h148 => c_rg <| r_ltT rfl rfl rfl (by omega) <| r_nx h148 <| c_sq fun k150 h150 => c_cT rfl <| c_sk <| WE.then_n h150 <| c_sq fun k152 h152 => c_bl <| c_sq fun k154 h154 => c_rg <| r_im (hA.app _) Try.underlying22 (by kernel_rfl) rfl rfl rfl rfl (by omega) (by omega) <| r_li (i) (hA.app _) Try.underlying21 rfl rfl rfl (by omega) <| r_as rfl rfl <| r_nx h154 <| c_sq fun k156 h156 => c_sq fun k158 h158 => c_rg <| r_mv rfl rfl <| r_cv rfl (cv_int (k' := .i64) rfl Try.underlying3 (w64 (by omega))) rfl <| r_mv rfl rfl ?_; rotate_left)
              by_cases hc2 : l.getD i 0 < minGe n l
              · rw [if_pos hc2, if_neg (by omega)] at hs
                (refine r_ltT rfl rfl rfl (by omega) <| r_nx h158 <| c_cT rfl <| c_rg <| r_mv rfl rfl <| r_ad rfl rfl rfl (wadd64 (by omega)) <| r_as rfl rfl <| r_nx h156 <| c_sq fun k163 h163 => c_rg <| r_mv rfl rfl <| r_cv rfl (cv_int (k' := .i64) rfl Try.underlying3 (w64 (by omega))) rfl <| r_mv rfl rfl <| r_eqF rfl rfl rfl (by omega) <| r_nx h163 <| c_cF rfl <| c_sk <| WE.blk_n <| WE.then_n h152 <| c_rg <| r_ad rfl rfl rfl (wadd64 (by omega)) <| r_mv rfl rfl <| r_nl ?_; rotate_left)
                (rotate_left)
                exact WE.back (i + 1, (dl + 1, bi, hh, o), u, p) ⟨by dsimp only; omega, hs, hp⟩ (by dsimp only; omega) ⟨rfl, rfl, rfl, rfl, rfl, rfl, rfl, rfl, rfl, rfl, trivial⟩ Mem.keep
              · by_cases hc3 : l.getD i 0 = minGe n l
                · rw [if_neg hc2, if_pos hc3] at hs
                  have hnl := numL_len bi 20 dl 36
                  (refine r_ltF rfl rfl rfl (by omega) <| r_nx h158 <| c_cF rfl <| c_sk <| WE.then_n h156 <| c_sq fun k165 h165 => c_rg <| r_mv rfl rfl <| r_cv rfl (cv_int (k' := .i64) rfl Try.underlying3 (w64 (by omega))) rfl <| r_mv rfl rfl <| r_eqT rfl rfl rfl (by omega) <| r_nx h165 <| c_cT rfl <| c_sq fun k167 h167 => c_rg <| r_mv rfl rfl <| r_mv rfl rfl ?_; rotate_left)
                  (rotate_left)
                  refine WX.pure rfl rfl (number_spec dl bi (by omega) (by omega) _ _) rfl rfl ?_
                  refine WX.call (m1 := [BB u g p o, OwnB p o]) (m2 := []) rfl rfl rfl (writeString_spec u g p o (strOf (numP dl bi)) (by show o.length + (numP dl bi).length ≤ _; unfold numP; omega) _ _) rfl rfl (fun p2 _ => ?_)
                  have hne : o ++ numP dl bi ≠ [] := by
                    unfold numP
                    rw [numL]
                    split <;> simp
                  by_cases hbq : hh = (basics l).length
                  · rw [decide_eq_true hbq] at hs
                    (refine r_nx h167 <| c_sq fun k174 h174 => c_rg <| r_mv rfl rfl <| r_mv rfl rfl <| r_ad rfl rfl rfl (wadd64 (by omega)) <| r_mv rfl rfl <| r_mv rfl rfl <| r_eqT rfl rfl rfl (by omega) ?_; rotate_left)
                    refine WX.pure rfl rfl (adapt_spec dl ((hh : Int) + 1) true (by omega) _ _) rfl rfl ?_
                    (refine r_as rfl rfl <| r_nx h174 <| c_sq fun k176 h176 => c_rg <| r_as rfl rfl <| r_nx h176 <| c_rg <| r_mv rfl rfl <| r_ad rfl rfl rfl (wadd64 (by omega)) <| r_as rfl rfl <| r_nl <| WE.blk_n <| WE.then_n h152 <| c_rg <| r_ad rfl rfl rfl (wadd64 (by omega)) <| r_mv rfl rfl <| r_nl ?_; rotate_left)
                    exact WE.back (i + 1, (0, adaptP dl ((hh : Int) + 1) true, hh + 1, o ++ numP dl bi), true, p2) ⟨by dsimp only; omega, hs, fun h => absurd h hne⟩ (by dsimp only; omega) ⟨rfl, rfl, rfl, rfl, rfl, rfl, rfl, rfl, rfl, rfl, trivial⟩ Mem.keep
                  · rw [decide_eq_false hbq] at hs
                    (refine r_nx h167 <| c_sq fun k174 h174 => c_rg <| r_mv rfl rfl <| r_mv rfl rfl <| r_ad rfl rfl rfl (wadd64 (by omega)) <| r_mv rfl rfl <| r_mv rfl rfl <| r_eqF rfl rfl rfl (by omega) ?_; rotate_left)
                    refine WX.pure rfl rfl (adapt_spec dl ((hh : Int) + 1) false (by omega) _ _) rfl rfl ?_
                    (refine r_as rfl rfl <| r_nx h174 <| c_sq fun k176 h176 => c_rg <| r_as rfl rfl <| r_nx h176 <| c_rg <| r_mv rfl rfl <| r_ad rfl rfl rfl (wadd64 (by omega)) <| r_as rfl rfl <| r_nl <| WE.blk_n <| WE.then_n h152 <| c_rg <| r_ad rfl rfl rfl (wadd64 (by omega)) <| r_mv rfl rfl <| r_nl ?_; rotate_left)
                    exact WE.back (i + 1, (0, adaptP dl ((hh : Int) + 1) false, hh + 1, o ++ numP dl bi), true, p2) ⟨by dsimp only; omega, hs, fun h => absurd h hne⟩ (by dsimp only; omega) ⟨rfl, rfl, rfl, rfl, rfl, rfl, rfl, rfl, rfl, rfl, trivial⟩ Mem.keep
                · rw [if_neg hc2, if_neg hc3] at hs
                  (refine r_ltF rfl rfl rfl (by omega) <| r_nx h158 <| c_cF rfl <| c_sk <| WE.then_n h156 <| c_sq fun k164 h164 => c_rg <| r_mv rfl rfl <| r_cv rfl (cv_int (k' := .i64) rfl Try.underlying3 (w64 (by omega))) rfl <| r_mv rfl rfl <| r_eqF rfl rfl rfl (by omega) <| r_nx h164 <| c_cF rfl <| c_sk <| WE.blk_n <| WE.then_n h152 <| c_rg <| r_ad rfl rfl rfl (wadd64 (by omega)) <| r_mv rfl rfl <| r_nl ?_; rotate_left)
                  (rotate_left)
                  exact WE.back (i + 1, (dl, bi, hh, o), u, p) ⟨by dsimp only; omega, hs, hp⟩ (by dsimp only; omega) ⟨rfl, rfl, rfl, rfl, rfl, rfl, rfl, rfl, rfl, rfl, trivial⟩ Mem.keep
            · have hta : l.take i = l := List.take_of_length_le (by omega)
              rw [hta] at he p3 p4 hcp
              have hR : encRound l (basics l).length n (delta, bias, h, out) = (dl, bi, hh, o) := by rw [← he, hs0]; rfl
              rw [hR] at e1
              have hpos : 0 < l.countP (fun c => decide (c = minGe n l)) := List.countP_pos_iff.2 ⟨_, hm1, by simp⟩
              have hbs := below_succ (minGe n l) l
              rw [below_min hmx hm2, ← e3] at hbs
              have hil : (i : Int) = l.length := by omega
              (refine c_sq fun k151 h151 => c_rg <| r_ltF rfl rfl rfl (by omega) <| r_nx h151 <| c_sq fun k153 h153 => c_cF rfl <| c_ex <| WE.then_x <| WE.then_x <| WE.blk_x <| WE.then_n h114 <| c_sq fun k155 h155 => c_rg <| r_mv rfl rfl <| r_ad rfl rfl rfl (wadd64 (by omega)) <| r_as rfl rfl <| r_nx h155 <| c_rg <| r_mv rfl rfl <| r_ad rfl rfl rfl (wadd64 (by omega)) <| r_as rfl rfl <| r_nl <| WE.blk_n ?_; rotate_left)
              exact WE.back (f, minGe n l + 1, (dl + 1, bi, hh, o), u, p) ⟨e1, by dsimp only; omega, by dsimp only; omega, by dsimp only; omega, by dsimp only; omega, p2, by dsimp only; omega, hp⟩ (by dsimp only; omega) ⟨rfl, rfl, rfl, rfl, rfl, rfl, rfl, trivial⟩ Mem.keep
      · have hfin : encOut l (basics l).length f n (delta, bias, h, out) = out := by cases f with | zero => rfl | succ f => rw [encOut, if_neg hlt]
        rw [hfin] at e1
        (refine c_sq fun k81 h81 => c_sq fun k83 h83 => c_rg <| r_mv rfl rfl <| r_mv rfl rfl <| r_ls Try.underlying22 rfl rfl <| r_ltF rfl rfl rfl (by omega) <| r_nx h83 <| c_cF rfl <| c_ex <| WE.then_x <| WE.then_x <| WE.blk_x <| WE.then_n h55 <| c_sq fun k85 h85 => c_rg ?_; rotate_left)
        refine WX.call (m1 := [BB u g p out, OwnB p out]) (m2 := []) rfl rfl rfl (bString_spec u g p out (by omega) e8 _ _) rfl rfl (fun _ _ => ?_)
        rw [e1]
        (refine r_as rfl rfl <| r_as rfl rfl <| r_nx h85 <| c_rt ?_; rotate_left)
        exact WE.ret2 () rfl rfl rfl rfl rfl trivial Mem.keep
end Go.Proofs.Ythnabbidlmihbaa
