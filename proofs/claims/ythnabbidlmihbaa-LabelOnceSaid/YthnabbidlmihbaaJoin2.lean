/- strings.Join with a dot: the walk. -/
import Derived.Test.YthnabbidlmihbaaJoin
import Derived.DataElems
namespace Go.Proofs.Ythnabbidlmihbaa
open Go.RowKit Go.Gp

def dotB : ByteArray := ⟨#[46]⟩
def sumN (l : List ByteArray) : Nat := (l.map ByteArray.size).sum
theorem sumN_snoc (l : List ByteArray) (s : ByteArray) : sumN (l ++ [s]) = sumN l + s.size := by simp [sumN]
theorem takeS {l : List ByteArray} {i : Nat} (h : i < l.length) : l.take (i + 1) = l.take i ++ [l.getD i ⟨#[]⟩] := by
  rw [List.take_add_one, List.getElem?_eq_getElem h]
  simp [h]
theorem sumN_le (l : List ByteArray) (h : ∀ s ∈ l, s.size ≤ 500000) : sumN l ≤ 500000 * l.length := by
  induction l with
  | nil => simp [sumN]
  | cons s l ih =>
    have h1 := h s (by simp)
    have h2 := ih (fun t ht => h t (by simp [ht]))
    have h3 : sumN (s :: l) = s.size + sumN l := by simp [sumN]
    rw [h3, List.length_cons]
    omega
theorem Rd.drop1 {w0 : World} {m : List Res} {A : Option Addr} {l : List ByteArray} (h : Rd w0 m A (strsV l)) : Rd w0 m (A.map (·.add 1)) (strsV (l.drop 1)) := by
  unfold Rd at h ⊢
  intro w hw j v hj
  have h2 : (strsV l)[1 + j]? = some v := by
    rw [strsV, List.map_drop, List.getElem?_drop] at hj
    exact hj
  obtain ⟨a, ha, hc⟩ := h w hw (1 + j) v h2
  exact ⟨a.add 1, by rw [ha]; rfl, by rw [Addr.add_add]; exact hc⟩
theorem elemS : Try.prog.underlying 35 = some (.slice (Try.prog.elem 35)) := by kernel_rfl
theorem sizeS (w : World) : (sizeOf (Try.prog.elem 35)).run Try.prog w = .ok 1 w := by kernel_rfl
theorem tailJ_snoc (l : List ByteArray) (s : ByteArray) : tailJ dotB (l ++ [s]) = tailJ dotB l ++ dotB.data.toList ++ s.data.toList := by simp [tailJ]
theorem tailJ_len (l : List ByteArray) : (tailJ dotB l).length = l.length + sumN l := by
  induction l with
  | nil => rfl
  | cons s l ih =>
    have h3 : sumN (s :: l) = s.size + sumN l := by simp [sumN]
    have h4 : tailJ dotB (s :: l) = dotB.data.toList ++ s.data.toList ++ tailJ dotB l := by simp [tailJ]
    have h5 : s.data.toList.length = s.size := by simp
    have h6 : dotB.data.toList.length = 1 := rfl
    rw [h3, h4, List.length_append, List.length_append, ih, List.length_cons, h5, h6]
    omega
set_option maxRecDepth 100000 in
theorem join_spec (A : Option Addr) (c : Nat) (l : List ByteArray) (hn : l.length ≤ 1000000) (hs : ∀ s ∈ l, s.size ≤ 500000) (hc : l.length ≤ c) (w0 : World) (m0 : List Res) (hA : Rd w0 m0 A (strsV l)) :
    PureC Try.prog 12 [.slice A l.length c, .string dotB] w0 m0 (.string (joinP dotB l)) := by
  refine Ct.of Try.func12 rfl (by kernel_rfl) rfl ?_
  by_cases h0 : l.length = 0
  · (refine c_sq fun k11 h11 => c_rg <| r_as rfl rfl <| r_nx h11 <| c_sq fun k13 h13 => c_sq fun k15 h15 => c_rg <| r_mv rfl rfl <| r_ls Try.underlying35 rfl rfl <| r_nx h15 <| c_bl <| c_sq fun k17 h17 => c_rg <| r_eqT rfl rfl rfl (by omega) <| r_as rfl rfl <| r_nx h17 <| c_cT rfl <| c_sq fun k19 h19 => c_rg <| r_as rfl rfl <| r_nx h19 <| c_rt <| WE.blk_r <| WE.then_r ?_; rotate_left)
    have e0 : l = [] := List.eq_nil_of_length_eq_zero h0
    exact WE.ret1 () rfl rfl (by rw [e0]; rfl) trivial Mem.drop
  · by_cases h1 : l.length = 1
    · (refine c_sq fun k12 h12 => c_rg <| r_as rfl rfl <| r_nx h12 <| c_sq fun k14 h14 => c_sq fun k16 h16 => c_rg <| r_mv rfl rfl <| r_ls Try.underlying35 rfl rfl <| r_nx h16 <| c_bl <| c_sq fun k18 h18 => c_rg <| r_eqF rfl rfl rfl (by omega) <| r_as rfl rfl <| r_nx h18 <| c_cF rfl <| c_sq fun k20 h20 => c_rg <| r_eqT rfl rfl rfl (by omega) <| r_as rfl rfl <| r_nx h20 <| c_cT rfl <| c_sq fun k22 h22 => c_rg <| r_mv rfl rfl <| r_im (hA.app _) Try.underlying35 (by kernel_rfl) rfl rfl rfl rfl (by omega) (by omega) <| r_lt (0) (hA.app _) Try.underlying9 rfl rfl rfl (by omega) <| r_as rfl rfl <| r_nx h22 <| c_rt <| WE.blk_r <| WE.then_r ?_; rotate_left)
      obtain ⟨s0, e0⟩ := List.length_eq_one_iff.1 h1
      exact WE.ret1 () rfl rfl (by rw [e0]; rfl) trivial Mem.drop
    · have hd : (dotB.size : Int) = 1 := rfl
      have hdiv : 1000000 ≤ 9223372036854775807 / ((l.length : Int) - 1) := Int.le_ediv_of_mul_le (by omega) (by omega)
      have hmul : (dotB.size : Int) * ((l.length : Int) - 1) = (l.length : Int) - 1 := by rw [hd, Int.one_mul]
      (refine c_sq fun k15 h15 => c_rg <| r_as rfl rfl <| r_nx h15 <| c_sq fun k17 h17 => c_sq fun k19 h19 => c_rg <| r_mv rfl rfl <| r_ls Try.underlying35 rfl rfl <| r_nx h19 <| c_bl <| c_sq fun k21 h21 => c_rg <| r_eqF rfl rfl rfl (by omega) <| r_as rfl rfl <| r_nx h21 <| c_cF rfl <| c_sq fun k23 h23 => c_rg <| r_eqF rfl rfl rfl (by omega) <| r_as rfl rfl <| r_nx h23 <| c_cF rfl <| c_sk <| WE.blk_n <| WE.then_n h17 <| c_sq fun k25 h25 => c_rg <| r_as rfl rfl <| r_nx h25 <| c_sq fun k27 h27 => c_sq fun k29 h29 => c_rg <| r_mv rfl rfl <| r_lS Try.underlying9 rfl rfl <| r_gtT rfl rfl rfl (by omega) <| r_nx h29 <| c_cT rfl <| c_sq fun k31 h31 => c_sq fun k33 h33 => c_rg <| r_mv rfl rfl <| r_lS Try.underlying9 rfl rfl <| r_mv rfl rfl <| r_ls Try.underlying35 rfl rfl <| r_su rfl rfl rfl (wsub64 (by omega)) <| r_qu rfl rfl rfl (by omega) (wquo64 (by omega)) <| r_geF rfl rfl rfl (by omega) <| r_nx h33 <| c_cF rfl <| c_sk <| WE.then_n h31 <| c_rg <| r_mv rfl rfl <| r_mv rfl rfl <| r_lS Try.underlying9 rfl rfl <| r_mv rfl rfl <| r_ls Try.underlying35 rfl rfl <| r_su rfl rfl rfl (wsub64 (by omega)) <| r_mu rfl rfl rfl (wmul64 (by omega)) <| r_ad rfl rfl rfl (wadd64 (by omega)) <| r_as rfl rfl <| r_nx h27 <| c_sq fun k35 h35 => c_sq fun k37 h37 => c_rg <| r_mv rfl rfl <| r_ls Try.underlying35 rfl rfl <| r_mv rfl rfl <| r_nx h37 <| c_bl ?_; rotate_left)
      have hs0 : sumN (l.take 0) = 0 := rfl
      refine WC.loop (α := Nat) (fun i => [(0, .slice A l.length c), (1, .string dotB), (5, .int .i64 ((l.length : Int) - 1 + (sumN (l.take i) : Int))), (39, .slice A l.length c), (40, .int .i64 l.length), (41, .int .i64 i)]) (fun _ => []) (fun i => i ≤ l.length) (fun i => l.length - i) 0 (by omega)
        ⟨rfl, rfl, congrArg (fun v => some (Value.int .i64 v)) (by rw [hs0, hmul]; omega), rfl, rfl, rfl, trivial⟩ Mem.keep ?_
      intro i hi
      have hle := sumN_le (l.take i) (fun t ht => hs t (List.mem_of_mem_take ht))
      have hti : (l.take i).length ≤ i := List.length_take_le _ _
      by_cases hlt : i < l.length
      · have hsi : (l.getD i ⟨#[]⟩).size ≤ 500000 := hs _ (by simp [hlt])
        have hsn := sumN_snoc (l.take i) (l.getD i ⟨#[]⟩)
        rw [← takeS hlt] at hsn
        (refine c_sq fun k48 h48 => c_rg <| r_ltT rfl rfl rfl (by omega) <| r_nx h48 <| c_sq fun k50 h50 => c_cT rfl <| c_sk <| WE.then_n h50 <| c_sq fun k52 h52 => c_bl <| c_sq fun k54 h54 => c_rg <| r_im (hA.app _) Try.underlying35 (by kernel_rfl) rfl rfl rfl rfl (by omega) (by omega) <| r_lt (i) (hA.app _) Try.underlying9 rfl rfl rfl (by omega) <| r_as rfl rfl <| r_nx h54 <| c_sq fun k56 h56 => c_sq fun k58 h58 => c_rg <| r_mv rfl rfl <| r_lS Try.underlying9 rfl rfl <| r_mv rfl rfl <| r_su rfl rfl rfl (wsub64 (by omega)) <| r_gtF rfl rfl rfl (by omega) <| r_nx h58 <| c_cF rfl <| c_sk <| WE.then_n h56 <| c_rg <| r_mv rfl rfl <| r_mv rfl rfl <| r_lS Try.underlying9 rfl rfl <| r_ad rfl rfl rfl (wadd64 (by omega)) <| r_as rfl rfl <| r_nl <| WE.blk_n <| WE.then_n h52 <| c_rg <| r_ad rfl rfl rfl (wadd64 (by omega)) <| r_mv rfl rfl <| r_nl ?_; rotate_left)
        exact WE.back (i + 1) (by omega) (by omega) ⟨rfl, rfl, congrArg (fun v => some (Value.int .i64 v)) (by rw [hsn]; omega), rfl, rfl, rfl, trivial⟩ Mem.keep
      · have hta : l.take i = l := List.take_of_length_le (by omega)
        rw [hta] at hle ⊢
        have hN : (l.length : Int) - 1 + (sumN l : Int) = ((l.length - 1 + sumN l : Nat) : Int) := by omega
        rw [hN]
        (refine c_sq fun k48 h48 => c_rg <| r_ltF rfl rfl rfl (by omega) <| r_nx h48 <| c_sq fun k50 h50 => c_cF rfl <| c_ex <| WE.then_x <| WE.then_x <| WE.blk_x <| WE.then_n h35 <| c_sq fun k52 h52 => c_rg <| r_al (z := .agg #[.pointer none, .slice none 0 0]) (cs := [.pointer none, .slice none 0 0]) (fun _ => by kernel_rfl) rfl rfl (fun _ => ?_); refine r_nx h52 <| c_sq fun k55 h55 => c_rg <| r_mv rfl rfl ?_; rotate_left)
        rename_i g
        refine WX.call (m1 := [BB false g (none, 0) []]) (m2 := []) rfl rfl rfl (bGrow_spec false g (l.length - 1 + sumN l) (by omega) _ _) rfl rfl (fun p _ => ?_)
        (refine r_nx h55 <| c_sq fun k59 h59 => c_rg <| r_mv rfl rfl <| r_im (hA.app _) Try.underlying35 (by kernel_rfl) rfl rfl rfl rfl (by omega) (by omega) <| r_lt (0) (hA.app _) Try.underlying9 rfl rfl rfl (by omega) ?_; rotate_left)
        have hs0' : (l.getD 0 ⟨#[]⟩).size ≤ 500000 := hs _ (by simp [show 0 < l.length by omega])
        have hb0 : (l.getD 0 ⟨#[]⟩).data.toList.length = (l.getD 0 ⟨#[]⟩).size := by simp
        refine WX.call (m1 := [BB true g p [], OwnB p []]) (m2 := []) rfl rfl rfl (writeString_spec true g p [] (l.getD 0 ⟨#[]⟩) (by rw [List.length_nil]; omega) _ _) rfl rfl (fun p1 _ => ?_)
        rw [List.nil_append]
        (refine r_nx h59 <| c_sq fun k65 h65 => c_sq fun k67 h67 => c_rg <| r_mv rfl rfl ?_; rotate_left)
        refine r_sf elemS sizeS rfl rfl (by omega) (by omega) rfl ?_
        have hsl : sliced A (Int.toNat 1) l.length c 1 = .slice (A.map (·.add 1)) (l.drop 1).length (c - 1) := by
          unfold sliced
          rw [if_neg (by omega), List.length_drop]
          rfl
        rw [hsl]
        have hR := Rd.drop1 hA
        have hld : (l.drop 1).length = l.length - 1 := by simp
        generalize hrest : l.drop 1 = rest at hR hld
        (refine r_ls Try.underlying35 rfl rfl <| r_mv rfl rfl <| r_nx h67 <| c_bl ?_; rotate_left)
        have hrs : ∀ t ∈ rest, t.size ≤ 500000 := fun t ht => hs t (by rw [← hrest] at ht; exact List.mem_of_mem_drop ht)
        generalize hb0e : (l.getD 0 ⟨#[]⟩).data.toList = b0 at hb0 ⊢
        refine WC.loop (α := Nat × (Option Addr × Nat)) (fun x => [(1, .string dotB), (8, .pointer (some ⟨g, 0, none⟩)), (63, .slice (A.map (·.add 1)) rest.length (c - 1)), (64, .int .i64 rest.length), (65, .int .i64 x.1)])
          (fun x => [BB true g x.2 (b0 ++ tailJ dotB (rest.take x.1)), OwnB x.2 (b0 ++ tailJ dotB (rest.take x.1))]) (fun x => x.1 ≤ rest.length) (fun x => rest.length - x.1) (0, p1) (by simp) ⟨rfl, rfl, rfl, rfl, rfl, trivial⟩
          (by dsimp only; rw [show b0 ++ tailJ dotB (rest.take 0) = b0 by simp [tailJ]]; exact Mem.keep) ?_
        rintro ⟨j, p⟩ hj
        dsimp only at hj ⊢
        have htl := tailJ_len (rest.take j)
        have hsl2 := sumN_le (rest.take j) (fun t ht => hrs t (List.mem_of_mem_take ht))
        have htj : (rest.take j).length ≤ rest.length := by simp; omega
        by_cases hjl : j < rest.length
        · have hej : (rest.getD j ⟨#[]⟩).size ≤ 500000 := hrs _ (by simp [hjl])
          have hsn := tailJ_snoc (rest.take j) (rest.getD j ⟨#[]⟩)
          rw [← takeS hjl] at hsn
          have hd1 : dotB.size = 1 := rfl
          have hd2 : dotB.data.toList.length = 1 := rfl
          (refine c_sq fun k90 h90 => c_rg <| r_ltT rfl rfl rfl (by omega) <| r_nx h90 <| c_sq fun k92 h92 => c_cT rfl <| c_sk <| WE.then_n h92 <| c_sq fun k94 h94 => c_bl <| c_sq fun k96 h96 => c_rg <| r_im (hR.app _) Try.underlying35 (by kernel_rfl) rfl rfl rfl rfl (by omega) (by omega) <| r_lt (j) (hR.app _) Try.underlying9 rfl rfl rfl (by omega) <| r_as rfl rfl <| r_nx h96 <| c_sq fun k98 h98 => c_rg <| r_mv rfl rfl ?_; rotate_left)
          refine WX.call (m1 := [BB true g p (b0 ++ tailJ dotB (rest.take j)), OwnB p (b0 ++ tailJ dotB (rest.take j))]) (m2 := []) rfl rfl rfl (writeString_spec true g p (b0 ++ tailJ dotB (rest.take j)) dotB (by rw [List.length_append]; omega) _ _) rfl rfl (fun p2 _ => ?_)
          (refine r_nx h98 <| c_rg <| r_mv rfl rfl ?_; rotate_left)
          refine WX.call (m1 := [BB true g p2 (b0 ++ tailJ dotB (rest.take j) ++ dotB.data.toList), OwnB p2 (b0 ++ tailJ dotB (rest.take j) ++ dotB.data.toList)]) (m2 := []) rfl rfl rfl (writeString_spec true g p2 (b0 ++ tailJ dotB (rest.take j) ++ dotB.data.toList) (rest.getD j ⟨#[]⟩) (by rw [List.length_append, List.length_append]; omega) _ _) rfl rfl (fun p3 _ => ?_)
          have hcon : b0 ++ tailJ dotB (rest.take j) ++ dotB.data.toList ++ (rest.getD j ⟨#[]⟩).data.toList = b0 ++ tailJ dotB (rest.take (j + 1)) := by
            rw [hsn]
            simp only [List.append_assoc]
          rw [hcon]
          (refine r_nl <| WE.blk_n <| WE.then_n h94 <| c_rg <| r_ad rfl rfl rfl (wadd64 (by omega)) <| r_mv rfl rfl <| r_nl ?_; rotate_left)
          exact WE.back (j + 1, p3) (by dsimp only; omega) (by dsimp only; omega) ⟨rfl, rfl, rfl, rfl, rfl, trivial⟩ Mem.keep
        · have htk : rest.take j = rest := List.take_of_length_le (by omega)
          rw [htk] at htl ⊢
          (refine c_sq fun k87 h87 => c_rg <| r_ltF rfl rfl rfl (by omega) <| r_nx h87 <| c_sq fun k89 h89 => c_cF rfl <| c_ex <| WE.then_x <| WE.then_x <| WE.blk_x <| WE.then_n h65 <| c_sq fun k91 h91 => c_rg ?_; rotate_left)
          refine WX.call (m1 := [BB true g p (b0 ++ tailJ dotB rest), OwnB p (b0 ++ tailJ dotB rest)]) (m2 := []) rfl rfl rfl (bString_spec true g p (b0 ++ tailJ dotB rest) (by rw [List.length_append]; rw [htk] at hsl2; omega) (fun h => by
            have := congrArg List.length h
            rw [List.length_append, List.length_nil] at this
            omega) _ _) rfl rfl (fun _ _ => ?_)
          have hjp : joinP dotB l = ⟨(b0 ++ tailJ dotB rest).toArray⟩ := by
            rw [← hb0e, ← hrest]
            cases l with
            | nil => exact absurd rfl h0
            | cons x r =>
              cases r with
              | nil => exact absurd rfl h1
              | cons y r => rfl
          (refine r_as rfl rfl <| r_nx h91 <| c_rt ?_; rotate_left)
          exact WE.ret1 () rfl rfl (by rw [hjp]; rfl) trivial Mem.keep
end Go.Proofs.Ythnabbidlmihbaa
