/- Contracts and laws, part 4 of 5: what each function of the program computes. -/
import Derived.Lib.BufferRead
import Derived.Test.YtkggplnigjlegaaGreatDoorM3
/- The document's Labels: the walk. -/
set_option linter.unusedVariables false
set_option linter.unusedSimpArgs false
namespace Go.Proofs.YtkggplnigjlegaaGreatDoor
open Go.RowKit Go.Gp

abbrev labVR : Option (List ByteArray) → Option Addr × Nat → Value
  | none, _ => .tuple #[.slice none 0 0, .bool false]
  | some l, p => .tuple #[SlS p l, .bool true]
abbrev labMR : Option (List ByteArray) → Option Addr × Nat → List Res
  | none, _ => []
  | some l, p => [OwnS p l]
set_option maxRecDepth 100000 in
theorem rlabels_spec (s : ByteArray) (hs : s.size ≤ 800000) (w0 : World) (m0 : List Res) :
    Ct (α := Option Addr × Nat) Tryz.prog 6 [.string s] w0 [] m0 (fun _ => True) (labVR (labelsP s)) (labMR (labelsP s)) := by
  have hN2 := splitS_len 46 s
  have hne := List.length_pos_iff.2 (splitS_ne 46 s)
  obtain ⟨L, hL⟩ : ∃ L, splitS 46 s = L := ⟨_, rfl⟩
  obtain ⟨R, hR⟩ : ∃ R, labelsP s = R := ⟨_, rfl⟩
  rw [hR]
  unfold labelsP at hR
  rw [hL] at hN2 hne hR
  replace hR := hR.symm
  have hRd : ∀ (g : Nat) (pc : Nat) (mm : List Res), Rd w0 (([.own (some ⟨g, 0, none⟩) pc L.length (strsV L) 9 1] ++ []) ++ mm) (some ⟨g, 0, none⟩) (strsV (trimP L)) := fun g pc mm => by
    have h1 : Rd w0 (([.own (some ⟨g, 0, none⟩) pc L.length (strsV L) 9 1] ++ []) ++ mm) (some ⟨g, 0, none⟩) (strsV L) := Rd.own 0 rfl
    unfold trimP
    split
    · unfold Rd at h1 ⊢
      intro w hw j v hv
      refine h1 w hw j v ?_
      rw [strsV, List.map_take, List.getElem?_take] at hv
      split at hv
      · exact hv
      · cases hv
    · exact h1
  have hTL := trimP_le L
  by_cases htr : 1 < L.length ∧ L[L.length - 1]? = some ⟨#[]⟩
  · have hT : trimP L = L.take (L.length - 1) := by unfold trimP; rw [if_pos htr]
    have hTl : (trimP L).length = L.length - 1 := by rw [hT]; simp
    have hget : L.getD (L.length - 1) ⟨#[]⟩ = ⟨#[]⟩ := by rw [List.getD_eq_getElem?_getD, htr.2]; rfl
    have h1 := htr.1
    refine Ct.of Tryz.func6 rfl (by kernel_rfl) rfl ?_
    (refine c_sq fun k22 h22 => c_rg <| r_as rfl rfl <| r_as rfl rfl <| r_nx h22 <| c_sq fun k24 h24 => c_rg <| r_mv rfl rfl ?_; rotate_left)
    refine WX.call (m1 := []) (m2 := []) rfl rfl rfl (rsplit_spec s 46 hs _ _) rfl rfl (fun p _ => ?_)
    obtain ⟨pA, pc⟩ := p
    rw [hL]
    refine WX.formM (A := pA) (c := pc) (n := L.length) (xs := strsV L) (e := 9) (sz := 1) (by simp) (fun hfa => ?_)
    obtain ⟨g, rfl⟩ := hfa hne
    refine WX.room 0 rfl (fun hroom => ?_)
    (refine r_as rfl rfl <| r_nx h24 <| c_sq fun k34 h34 => c_sq fun k36 h36 => c_rg <| r_mv rfl rfl <| r_ls Tryz.underlying23 rfl rfl <| r_gtT rfl rfl rfl (by omega) <| r_mv rfl rfl <| r_mv rfl rfl <| r_mv rfl rfl <| r_ls Tryz.underlying23 rfl rfl <| r_su rfl rfl rfl (wsub64 (by omega)) <| r_im (Rd.own 0 rfl) Tryz.underlying23 (by kernel_rfl) rfl rfl rfl rfl (by omega) (by omega) ?_; rotate_left)
    refine r_lt ((L.length : Nat) - 1 : Int).toNat (Rd.own 0 rfl) Tryz.underlying9 rfl rfl rfl (by omega) ?_
    rw [show ((L.length : Nat) - 1 : Int).toNat = L.length - 1 by omega, hget]
    (rotate_left)
    refine r_seq rfl rfl (fun _ => by kernel_rfl) rfl ?_
    rw [decide_eq_true rfl]
    (refine r_pT rfl rfl rfl <| r_nx h36 <| c_cT rfl <| c_rg <| r_mv rfl rfl <| r_mv rfl rfl <| r_ls Tryz.underlying23 rfl rfl <| r_su rfl rfl rfl (wsub64 (by omega)) ?_; rotate_left)
    refine r_sto elemS sizeS rfl rfl (by omega) (by omega) rfl ?_
    rw [sliced_0, show ((L.length : Nat) - 1 : Int).toNat = (trimP L).length by omega]
    generalize trimP L = T at hR hRd hTL hT hTl ⊢
    (refine r_as rfl rfl <| r_nx h34 <| c_sq fun k44 h44 => c_sq fun k46 h46 => c_rg <| r_as rfl rfl <| r_nx h46 <| c_bl ?_; rotate_left)
    refine WC.loop (α := Nat) (fun i => [(4, .slice (some ⟨g, 0, none⟩) T.length pc), (5, .int .i64 (i : Nat))]) (fun _ => [OwnS (some ⟨g, 0, none⟩, pc) L]) (fun i => i ≤ T.length ∧ ∀ j, j < i → T.getD j ⟨#[]⟩ ≠ ⟨#[]⟩) (fun i => T.length - i) 0 ⟨Nat.zero_le _, fun j hj => by omega⟩ ⟨rfl, rfl, trivial⟩ Mem.keep ?_
    rintro i ⟨hi, hno⟩
    by_cases hlt : i < T.length
    · by_cases hem : T.getD i ⟨#[]⟩ = ⟨#[]⟩
      · have hRn : R = none := by
          rw [hR, if_pos]
          exact (idxB_mem _ _).2 (by rw [← hem, List.getD_eq_getElem?_getD, List.getElem?_eq_getElem hlt]; exact List.getElem_mem _)
        subst hRn
        (refine c_sq fun k60 h60 => c_sq fun k62 h62 => c_rg <| r_mv rfl rfl <| r_mv rfl rfl <| r_ls Tryz.underlying23 rfl rfl <| r_ltT rfl rfl rfl (by omega) <| r_nx h62 <| c_cT rfl <| c_sk <| WE.then_n h60 <| c_sq fun k64 h64 => c_bl <| c_sq fun k66 h66 => c_rg <| r_mv rfl rfl <| r_mv rfl rfl ?_; rotate_left)
        refine r_ia Tryz.underlying23 (by kernel_rfl) rfl rfl rfl (fun _ => rfl) (by omega) (by omega) ?_
        refine r_lt i (hRd g pc _) Tryz.underlying9 rfl rfl rfl hlt ?_
        (rotate_left)
        refine r_seq rfl rfl (fun _ => by kernel_rfl) rfl ?_
        rw [hem, decide_eq_true rfl]
        (refine r_nx h66 <| c_cT rfl <| c_sq fun k68 h68 => c_rg <| r_as rfl rfl <| r_as rfl rfl <| r_nx h68 <| c_rt <| WE.blk_r <| WE.then_r <| WE.then_r <| WE.blk_r <| WE.then_r ?_; rotate_left)
        exact WE.ret2 (none, 0) rfl rfl rfl rfl rfl trivial Mem.drop
      · (refine c_sq fun k53 h53 => c_sq fun k55 h55 => c_rg <| r_mv rfl rfl <| r_mv rfl rfl <| r_ls Tryz.underlying23 rfl rfl <| r_ltT rfl rfl rfl (by omega) <| r_nx h55 <| c_cT rfl <| c_sk <| WE.then_n h53 <| c_sq fun k57 h57 => c_bl <| c_sq fun k59 h59 => c_rg <| r_mv rfl rfl <| r_mv rfl rfl ?_; rotate_left)
        refine r_ia Tryz.underlying23 (by kernel_rfl) rfl rfl rfl (fun _ => rfl) (by omega) (by omega) ?_
        refine r_lt i (hRd g pc _) Tryz.underlying9 rfl rfl rfl hlt ?_
        (rotate_left)
        refine r_seq rfl rfl (fun _ => by kernel_rfl) rfl ?_
        rw [decide_eq_false hem]
        (refine r_nx h59 <| c_cF rfl <| c_sk <| WE.blk_n <| WE.then_n h57 <| c_rg <| r_mv rfl rfl <| r_ad rfl rfl rfl (wadd64 (by omega)) <| r_as rfl rfl <| r_nl ?_; rotate_left)
        exact WE.back (i + 1) ⟨by omega, fun j hj => by
          by_cases h : j < i
          · exact hno j h
          · obtain rfl : j = i := by omega
            exact hem⟩ (by omega) ⟨rfl, rfl, trivial⟩ Mem.keep
    · have hRs : R = some T.reverse := by
        rw [hR, if_neg]
        intro h
        obtain ⟨j, hj⟩ := List.mem_iff_getElem?.1 ((idxB_mem _ _).1 h)
        have hj2 := (List.getElem?_eq_some_iff.1 hj).1
        exact hno j (by omega) (by rw [List.getD_eq_getElem?_getD, hj]; rfl)
      subst hRs
      (refine c_sq fun k59 h59 => c_sq fun k61 h61 => c_rg <| r_mv rfl rfl <| r_mv rfl rfl <| r_ls Tryz.underlying23 rfl rfl <| r_ltF rfl rfl rfl (by omega) <| r_nx h61 <| c_cF rfl <| c_ex <| WE.then_x <| WE.then_x <| WE.blk_x <| WE.then_n h44 <| c_sq fun k63 h63 => c_rg <| r_mv rfl rfl ?_; rotate_left)
      refine WX.call (m1 := []) (m2 := _) rfl rfl rfl (rturned_spec (some ⟨g, 0, none⟩) pc T (by omega) _ _ (hRd g pc _) (fun _ => rfl)) rfl rfl (fun q _ => ?_)
      (refine r_as rfl rfl <| r_as rfl rfl <| r_nx h63 <| c_rt ?_; rotate_left)
      exact WE.ret2 q rfl rfl rfl rfl rfl trivial (Mem.pick [0] (by decide) rfl)
  · have hT : trimP L = L := by unfold trimP; rw [if_neg htr]
    rw [hT] at hRd hR hTL
    by_cases h1 : 1 < L.length
    · have hget : ¬ L.getD (L.length - 1) ⟨#[]⟩ = ⟨#[]⟩ := fun h => htr ⟨h1, by
        rw [List.getD_eq_getElem?_getD] at h
        rw [List.getElem?_eq_getElem (by omega)] at h ⊢
        exact congrArg some h⟩
      refine Ct.of Tryz.func6 rfl (by kernel_rfl) rfl ?_
      (refine c_sq fun k23 h23 => c_rg <| r_as rfl rfl <| r_as rfl rfl <| r_nx h23 <| c_sq fun k25 h25 => c_rg <| r_mv rfl rfl ?_; rotate_left)
      refine WX.call (m1 := []) (m2 := []) rfl rfl rfl (rsplit_spec s 46 hs _ _) rfl rfl (fun p _ => ?_)
      obtain ⟨pA, pc⟩ := p
      rw [hL]
      refine WX.formM (A := pA) (c := pc) (n := L.length) (xs := strsV L) (e := 9) (sz := 1) (by simp) (fun hfa => ?_)
      obtain ⟨g, rfl⟩ := hfa hne
      refine WX.room 0 rfl (fun hroom => ?_)
      (refine r_as rfl rfl <| r_nx h25 <| c_sq fun k35 h35 => c_sq fun k37 h37 => c_rg <| r_mv rfl rfl <| r_ls Tryz.underlying23 rfl rfl <| r_gtT rfl rfl rfl (by omega) <| r_mv rfl rfl <| r_mv rfl rfl <| r_mv rfl rfl <| r_ls Tryz.underlying23 rfl rfl <| r_su rfl rfl rfl (wsub64 (by omega)) <| r_im (Rd.own 0 rfl) Tryz.underlying23 (by kernel_rfl) rfl rfl rfl rfl (by omega) (by omega) ?_; rotate_left)
      refine r_lt ((L.length : Nat) - 1 : Int).toNat (Rd.own 0 rfl) Tryz.underlying9 rfl rfl rfl (by omega) ?_
      rw [show ((L.length : Nat) - 1 : Int).toNat = L.length - 1 by omega]
      (rotate_left)
      refine r_seq rfl rfl (fun _ => by kernel_rfl) rfl ?_
      rw [decide_eq_false hget]
      (refine r_pT rfl rfl rfl <| r_nx h37 <| c_cF rfl <| c_sk <| WE.then_n h35 <| c_sq fun k39 h39 => c_sq fun k41 h41 => c_rg <| r_as rfl rfl <| r_nx h41 <| c_bl ?_; rotate_left)
      refine WC.loop (α := Nat) (fun i => [(4, .slice (some ⟨g, 0, none⟩) L.length pc), (5, .int .i64 (i : Nat))]) (fun _ => [OwnS (some ⟨g, 0, none⟩, pc) L]) (fun i => i ≤ L.length ∧ ∀ j, j < i → L.getD j ⟨#[]⟩ ≠ ⟨#[]⟩) (fun i => L.length - i) 0 ⟨Nat.zero_le _, fun j hj => by omega⟩ ⟨rfl, rfl, trivial⟩ Mem.keep ?_
      rintro i ⟨hi, hno⟩
      by_cases hlt : i < L.length
      · by_cases hem : L.getD i ⟨#[]⟩ = ⟨#[]⟩
        · have hRn : R = none := by
            rw [hR, if_pos]
            exact (idxB_mem _ _).2 (by rw [← hem, List.getD_eq_getElem?_getD, List.getElem?_eq_getElem hlt]; exact List.getElem_mem _)
          subst hRn
          (refine c_sq fun k55 h55 => c_sq fun k57 h57 => c_rg <| r_mv rfl rfl <| r_mv rfl rfl <| r_ls Tryz.underlying23 rfl rfl <| r_ltT rfl rfl rfl (by omega) <| r_nx h57 <| c_cT rfl <| c_sk <| WE.then_n h55 <| c_sq fun k59 h59 => c_bl <| c_sq fun k61 h61 => c_rg <| r_mv rfl rfl <| r_mv rfl rfl <| r_im (Rd.own 0 rfl) Tryz.underlying23 (by kernel_rfl) rfl rfl rfl rfl (by omega) (by omega) <| r_lt (i) (Rd.own 0 rfl) Tryz.underlying9 rfl rfl rfl (by omega) ?_; rotate_left)
          refine r_seq rfl rfl (fun _ => by kernel_rfl) rfl ?_
          rw [hem, decide_eq_true rfl]
          (refine r_nx h61 <| c_cT rfl <| c_sq fun k63 h63 => c_rg <| r_as rfl rfl <| r_as rfl rfl <| r_nx h63 <| c_rt <| WE.blk_r <| WE.then_r <| WE.then_r <| WE.blk_r <| WE.then_r ?_; rotate_left)
          exact WE.ret2 (none, 0) rfl rfl rfl rfl rfl trivial Mem.drop
        · (refine c_sq fun k48 h48 => c_sq fun k50 h50 => c_rg <| r_mv rfl rfl <| r_mv rfl rfl <| r_ls Tryz.underlying23 rfl rfl <| r_ltT rfl rfl rfl (by omega) <| r_nx h50 <| c_cT rfl <| c_sk <| WE.then_n h48 <| c_sq fun k52 h52 => c_bl <| c_sq fun k54 h54 => c_rg <| r_mv rfl rfl <| r_mv rfl rfl <| r_im (Rd.own 0 rfl) Tryz.underlying23 (by kernel_rfl) rfl rfl rfl rfl (by omega) (by omega) <| r_lt (i) (Rd.own 0 rfl) Tryz.underlying9 rfl rfl rfl (by omega) ?_; rotate_left)
          refine r_seq rfl rfl (fun _ => by kernel_rfl) rfl ?_
          rw [decide_eq_false hem]
          (refine r_nx h54 <| c_cF rfl <| c_sk <| WE.blk_n <| WE.then_n h52 <| c_rg <| r_mv rfl rfl <| r_ad rfl rfl rfl (wadd64 (by omega)) <| r_as rfl rfl <| r_nl ?_; rotate_left)
          exact WE.back (i + 1) ⟨by omega, fun j hj => by
            by_cases h : j < i
            · exact hno j h
            · obtain rfl : j = i := by omega
              exact hem⟩ (by omega) ⟨rfl, rfl, trivial⟩ Mem.keep
      · have hRs : R = some L.reverse := by
          rw [hR, if_neg]
          intro h
          obtain ⟨j, hj⟩ := List.mem_iff_getElem?.1 ((idxB_mem _ _).1 h)
          have hj2 := (List.getElem?_eq_some_iff.1 hj).1
          exact hno j (by omega) (by rw [List.getD_eq_getElem?_getD, hj]; rfl)
        subst hRs
        (refine c_sq fun k54 h54 => c_sq fun k56 h56 => c_rg <| r_mv rfl rfl <| r_mv rfl rfl <| r_ls Tryz.underlying23 rfl rfl <| r_ltF rfl rfl rfl (by omega) <| r_nx h56 <| c_cF rfl <| c_ex <| WE.then_x <| WE.then_x <| WE.blk_x <| WE.then_n h39 <| c_sq fun k58 h58 => c_rg <| r_mv rfl rfl ?_; rotate_left)
        refine WX.call (m1 := []) (m2 := _) rfl rfl rfl (rturned_spec (some ⟨g, 0, none⟩) pc L (by omega) _ _ (hRd g pc _) (fun _ => rfl)) rfl rfl (fun q _ => ?_)
        (refine r_as rfl rfl <| r_as rfl rfl <| r_nx h58 <| c_rt ?_; rotate_left)
        exact WE.ret2 q rfl rfl rfl rfl rfl trivial (Mem.pick [0] (by decide) rfl)
    · skip
      refine Ct.of Tryz.func6 rfl (by kernel_rfl) rfl ?_
      (refine c_sq fun k22 h22 => c_rg <| r_as rfl rfl <| r_as rfl rfl <| r_nx h22 <| c_sq fun k24 h24 => c_rg <| r_mv rfl rfl ?_; rotate_left)
      refine WX.call (m1 := []) (m2 := []) rfl rfl rfl (rsplit_spec s 46 hs _ _) rfl rfl (fun p _ => ?_)
      obtain ⟨pA, pc⟩ := p
      rw [hL]
      refine WX.formM (A := pA) (c := pc) (n := L.length) (xs := strsV L) (e := 9) (sz := 1) (by simp) (fun hfa => ?_)
      obtain ⟨g, rfl⟩ := hfa hne
      refine WX.room 0 rfl (fun hroom => ?_)
      (refine r_as rfl rfl <| r_nx h24 <| c_sq fun k34 h34 => c_sq fun k36 h36 => c_rg <| r_mv rfl rfl <| r_ls Tryz.underlying23 rfl rfl <| r_gtF rfl rfl rfl (by omega) <| r_mv rfl rfl <| r_sk rfl rfl <| r_sk rfl rfl <| r_sk rfl rfl <| r_sk rfl rfl <| r_sk rfl rfl <| r_sk rfl rfl <| r_sk rfl rfl <| r_pF rfl rfl rfl <| r_nx h36 <| c_cF rfl <| c_sk <| WE.then_n h34 <| c_sq fun k38 h38 => c_sq fun k40 h40 => c_rg <| r_as rfl rfl <| r_nx h40 <| c_bl ?_; rotate_left)
      refine WC.loop (α := Nat) (fun i => [(4, .slice (some ⟨g, 0, none⟩) L.length pc), (5, .int .i64 (i : Nat))]) (fun _ => [OwnS (some ⟨g, 0, none⟩, pc) L]) (fun i => i ≤ L.length ∧ ∀ j, j < i → L.getD j ⟨#[]⟩ ≠ ⟨#[]⟩) (fun i => L.length - i) 0 ⟨Nat.zero_le _, fun j hj => by omega⟩ ⟨rfl, rfl, trivial⟩ Mem.keep ?_
      rintro i ⟨hi, hno⟩
      by_cases hlt : i < L.length
      · by_cases hem : L.getD i ⟨#[]⟩ = ⟨#[]⟩
        · have hRn : R = none := by
            rw [hR, if_pos]
            exact (idxB_mem _ _).2 (by rw [← hem, List.getD_eq_getElem?_getD, List.getElem?_eq_getElem hlt]; exact List.getElem_mem _)
          subst hRn
          (refine c_sq fun k54 h54 => c_sq fun k56 h56 => c_rg <| r_mv rfl rfl <| r_mv rfl rfl <| r_ls Tryz.underlying23 rfl rfl <| r_ltT rfl rfl rfl (by omega) <| r_nx h56 <| c_cT rfl <| c_sk <| WE.then_n h54 <| c_sq fun k58 h58 => c_bl <| c_sq fun k60 h60 => c_rg <| r_mv rfl rfl <| r_mv rfl rfl <| r_im (Rd.own 0 rfl) Tryz.underlying23 (by kernel_rfl) rfl rfl rfl rfl (by omega) (by omega) <| r_lt (i) (Rd.own 0 rfl) Tryz.underlying9 rfl rfl rfl (by omega) ?_; rotate_left)
          refine r_seq rfl rfl (fun _ => by kernel_rfl) rfl ?_
          rw [hem, decide_eq_true rfl]
          (refine r_nx h60 <| c_cT rfl <| c_sq fun k62 h62 => c_rg <| r_as rfl rfl <| r_as rfl rfl <| r_nx h62 <| c_rt <| WE.blk_r <| WE.then_r <| WE.then_r <| WE.blk_r <| WE.then_r ?_; rotate_left)
          exact WE.ret2 (none, 0) rfl rfl rfl rfl rfl trivial Mem.drop
        · (refine c_sq fun k47 h47 => c_sq fun k49 h49 => c_rg <| r_mv rfl rfl <| r_mv rfl rfl <| r_ls Tryz.underlying23 rfl rfl <| r_ltT rfl rfl rfl (by omega) <| r_nx h49 <| c_cT rfl <| c_sk <| WE.then_n h47 <| c_sq fun k51 h51 => c_bl <| c_sq fun k53 h53 => c_rg <| r_mv rfl rfl <| r_mv rfl rfl <| r_im (Rd.own 0 rfl) Tryz.underlying23 (by kernel_rfl) rfl rfl rfl rfl (by omega) (by omega) <| r_lt (i) (Rd.own 0 rfl) Tryz.underlying9 rfl rfl rfl (by omega) ?_; rotate_left)
          refine r_seq rfl rfl (fun _ => by kernel_rfl) rfl ?_
          rw [decide_eq_false hem]
          (refine r_nx h53 <| c_cF rfl <| c_sk <| WE.blk_n <| WE.then_n h51 <| c_rg <| r_mv rfl rfl <| r_ad rfl rfl rfl (wadd64 (by omega)) <| r_as rfl rfl <| r_nl ?_; rotate_left)
          exact WE.back (i + 1) ⟨by omega, fun j hj => by
            by_cases h : j < i
            · exact hno j h
            · obtain rfl : j = i := by omega
              exact hem⟩ (by omega) ⟨rfl, rfl, trivial⟩ Mem.keep
      · have hRs : R = some L.reverse := by
          rw [hR, if_neg]
          intro h
          obtain ⟨j, hj⟩ := List.mem_iff_getElem?.1 ((idxB_mem _ _).1 h)
          have hj2 := (List.getElem?_eq_some_iff.1 hj).1
          exact hno j (by omega) (by rw [List.getD_eq_getElem?_getD, hj]; rfl)
        subst hRs
        (refine c_sq fun k53 h53 => c_sq fun k55 h55 => c_rg <| r_mv rfl rfl <| r_mv rfl rfl <| r_ls Tryz.underlying23 rfl rfl <| r_ltF rfl rfl rfl (by omega) <| r_nx h55 <| c_cF rfl <| c_ex <| WE.then_x <| WE.then_x <| WE.blk_x <| WE.then_n h38 <| c_sq fun k57 h57 => c_rg <| r_mv rfl rfl ?_; rotate_left)
        refine WX.call (m1 := []) (m2 := _) rfl rfl rfl (rturned_spec (some ⟨g, 0, none⟩) pc L (by omega) _ _ (hRd g pc _) (fun _ => rfl)) rfl rfl (fun q _ => ?_)
        (refine r_as rfl rfl <| r_as rfl rfl <| r_nx h57 <| c_rt ?_; rotate_left)
        exact WE.ret2 q rfl rfl rfl rfl rfl trivial (Mem.pick [0] (by decide) rfl)
end Go.Proofs.YtkggplnigjlegaaGreatDoor

/- The document's reading of bytes (gatepostref02.Decode), on all bytes: it is the program's own. -/
set_option linter.unusedVariables false
set_option linter.unusedSimpArgs false
namespace Go.Proofs.YtkggplnigjlegaaGreatDoor
open Go.RowKit Go.Gp

/-! ### In plain Lean -/
def manyP (c : Nat) : Nat := if c < 128 then 1 else if 194 ≤ c ∧ c ≤ 223 then 2 else if 224 ≤ c ∧ c ≤ 239 then 3 else if 240 ≤ c ∧ c ≤ 244 then 4 else 0
def folP (a c i : Nat) : Bool := decide (128 ≤ c ∧ c ≤ 191 ∧ (1 < i ∨ ¬ ((a = 224 ∧ c < 160) ∨ (a = 237 ∧ 159 < c) ∨ (a = 240 ∧ c < 144) ∨ (a = 244 ∧ 143 < c))))
def bgG (L : List UInt8) (a n : Nat) : Nat → Nat → Nat
  | 0, k => k
  | f + 1, k => if k < n ∧ k < L.length ∧ folP a (L.getD k 0).toNat k = true then bgG L a n f (k + 1) else k
def bgP (L : List UInt8) : Nat := if manyP (L.getD 0 0).toNat = 0 then 0 else bgG L (L.getD 0 0).toNat (manyP (L.getD 0 0).toNat) (manyP (L.getD 0 0).toNat) 1
def uvalG (L : List UInt8) : Nat → Nat → Int → Int
  | 0, _, c => c
  | k + 1, i, c => uvalG L k (i + 1) (64 * c + ((L.getD i 0).toNat : Int) - 128)
def baseP (n : Nat) : Int := if n = 2 then 192 else if n = 3 then 224 else 240
def uvalP (L : List UInt8) (n : Nat) : Int := if n = 1 then ((L.getD 0 0).toNat : Int) else uvalG L (n - 1) 1 (((L.getD 0 0).toNat : Int) - baseP n)
theorem uvalG_congr (L M : List UInt8) : ∀ (k i : Nat) (c : Int), (∀ j, i ≤ j → j < i + k → L.getD j 0 = M.getD j 0) → uvalG L k i c = uvalG M k i c
  | 0, _, _, _ => rfl
  | k + 1, i, c, h => by
    rw [uvalG, uvalG, h i (Nat.le_refl _) (by omega)]
    exact uvalG_congr L M k (i + 1) _ (fun j h1 h2 => h j (by omega) (by omega))
theorem bgG_le (L : List UInt8) (a n : Nat) : ∀ (f k : Nat), k ≤ n → k ≤ bgG L a n f k ∧ bgG L a n f k ≤ n
  | 0, k, h => ⟨Nat.le_refl _, h⟩
  | f + 1, k, h => by
    rw [bgG]
    split
    · rename_i hc
      have := bgG_le L a n f (k + 1) (by omega)
      omega
    · omega
theorem bgG_in (L : List UInt8) (a n : Nat) : ∀ (f k : Nat), k ≤ L.length → bgG L a n f k ≤ L.length
  | 0, k, h => h
  | f + 1, k, h => by
    rw [bgG]
    split
    · rename_i hc
      exact bgG_in L a n f (k + 1) (by omega)
    · exact h
theorem nxG_bg (s : ByteArray) (a n : Nat) : ∀ (k i : Nat) (c lo hi : Int), 1 ≤ i → i + k = n → (∀ c : Nat, (lo ≤ (c : Int) ∧ (c : Int) ≤ hi) ↔ folP a c i = true) →
    nxG s k i c lo hi = (if bgG s.data.toList a n (k + 1) i = n then uvalG s.data.toList k i c else 65533, bgG s.data.toList a n (k + 1) i)
  | 0, i, c, lo, hi, h1, hn, hf => by
    have e : bgG s.data.toList a n (0 + 1) i = i := by rw [bgG, if_neg (by omega)]
    rw [e, nxG, if_pos (by omega), uvalG]
  | k + 1, i, c, lo, hi, h1, hn, hf => by
    have hx := hf (s.data.toList.getD i 0).toNat
    rw [nxG]
    by_cases hb : i < s.size ∧ folP a (s.data.toList.getD i 0).toNat i = true
    · have hin : inP s i lo hi = true := by
        unfold inP
        have := hx.2 hb.2
        simp only [Bool.and_eq_true, decide_eq_true_eq]
        exact ⟨⟨hb.1, this.1⟩, this.2⟩
      have h3 : 128 ≤ (s.data.toList.getD i 0).toNat ∧ (s.data.toList.getD i 0).toNat ≤ 191 := by
        have := of_decide_eq_true hb.2
        omega
      have eb : bgG s.data.toList a n (k + 1 + 1) i = bgG s.data.toList a n (k + 1) (i + 1) := by
        rw [bgG, if_pos (by rw [size_list]; exact ⟨by omega, hb.1, hb.2⟩)]
      rw [eb, if_pos hin, nxG_bg s a n k (i + 1) _ 128 191 (by omega) (by omega) (fun c => by
        unfold folP
        rw [decide_eq_true_eq]
        omega), uvalG]
      have e : c * 64 + ((s.data.toList.getD i 0).toNat : Int) % 64 = 64 * c + ((s.data.toList.getD i 0).toNat : Int) - 128 := by omega
      rw [e]
    · have hin : ¬ inP s i lo hi = true := by
        unfold inP
        simp only [Bool.and_eq_true, decide_eq_true_eq]
        intro h
        exact hb ⟨h.1.1, hx.1 ⟨h.1.2, h.2⟩⟩
      have eb : bgG s.data.toList a n (k + 1 + 1) i = i := by
        rw [bgG, if_neg (by rw [size_list]; exact fun h => hb h.2)]
      rw [eb, if_neg hin, if_neg (by omega)]
theorem nextP_bg (s : ByteArray) (h : 0 < s.size) : nextP s = (if 0 < bgP s.data.toList ∧ bgP s.data.toList = manyP (s.data.toList.getD 0 0).toNat then uvalP s.data.toList (bgP s.data.toList) else 65533, max (bgP s.data.toList) 1) := by
  have h256 := (s.data.toList.getD 0 0).toNat_lt
  by_cases h1 : (s.data.toList.getD 0 0).toNat < 128
  · have hm : manyP (s.data.toList.getD 0 0).toNat = 1 := by unfold manyP; rw [if_pos h1]
    have e : bgP s.data.toList = 1 := by
      unfold bgP
      rw [hm, if_neg (by omega), bgG, if_neg (by omega)]
    rw [hm, e, if_pos ⟨by omega, rfl⟩]
    unfold nextP
    rw [if_pos h1]
    rfl
  · have hP : bgP s.data.toList = if manyP (s.data.toList.getD 0 0).toNat = 0 then 0 else bgG s.data.toList (s.data.toList.getD 0 0).toNat (manyP (s.data.toList.getD 0 0).toNat) (manyP (s.data.toList.getD 0 0).toNat) 1 := rfl
    unfold nextP
    rw [if_neg h1]
    generalize ha : (s.data.toList.getD 0 0).toNat = a at h1 h256 hP ⊢
    have key : ∀ n : Nat, manyP a = n → 2 ≤ n → (fstP a).more.toNat = n - 1 → (fstP a).own = (a : Int) - baseP n → (∀ c : Nat, ((fstP a).lo ≤ (c : Int) ∧ (c : Int) ≤ (fstP a).hi) ↔ folP a c 1 = true) →
        nxG s (fstP a).more.toNat 1 (fstP a).own (fstP a).lo (fstP a).hi = (if 0 < bgP s.data.toList ∧ bgP s.data.toList = manyP a then uvalP s.data.toList (bgP s.data.toList) else 65533, max (bgP s.data.toList) 1) := by
      intro n hn h2 hm ho hf
      rw [hn, if_neg (by omega)] at hP
      rw [hn, hm, ho, nxG_bg s a n (n - 1) 1 _ _ _ (Nat.le_refl _) (by omega) hf, show n - 1 + 1 = n by omega, ← hP]
      have hb := bgG_le s.data.toList a n n 1 (by omega)
      rw [← hP] at hb
      clear hP
      generalize bgP s.data.toList = R at hb ⊢
      by_cases hR : R = n
      · subst hR
        rw [if_pos rfl, if_pos ⟨by omega, rfl⟩, show max R 1 = R by omega]
        unfold uvalP
        rw [if_neg (by omega), ha]
      · rw [if_neg hR, if_neg (by omega), show max R 1 = R by omega]
    have hcase : (194 ≤ a ∧ a ≤ 223) ∨ a = 224 ∨ a = 237 ∨ (225 ≤ a ∧ a ≤ 239 ∧ a ≠ 237) ∨ a = 240 ∨ (241 ≤ a ∧ a ≤ 243) ∨ a = 244 ∨ (a < 194 ∨ 244 < a) := by omega
    rcases hcase with hc | hc | hc | hc | hc | hc | hc | hc
    · have hf : fstP a = ⟨1, (a : Int) % 32, 128, 191⟩ := by unfold fstP; rw [if_pos hc]
      refine key 2 (by unfold manyP; rw [if_neg h1, if_pos hc]) (by omega) (by rw [hf]; rfl) (by rw [hf]; show (a : Int) % 32 = (a : Int) - 192; omega) (fun c => by rw [hf]; unfold folP; rw [decide_eq_true_eq]; dsimp only; omega)
    · subst hc
      refine key 3 rfl (by omega) rfl rfl (fun c => by show ((160 : Int) ≤ (c : Int) ∧ (c : Int) ≤ 191) ↔ _; unfold folP; rw [decide_eq_true_eq]; omega)
    · subst hc
      refine key 3 rfl (by omega) rfl rfl (fun c => by show ((128 : Int) ≤ (c : Int) ∧ (c : Int) ≤ 159) ↔ _; unfold folP; rw [decide_eq_true_eq]; omega)
    · have hf : fstP a = ⟨2, (a : Int) % 16, 128, 191⟩ := by unfold fstP; rw [if_neg (by omega), if_neg (by omega), if_neg (by omega), if_pos (by omega)]
      refine key 3 (by unfold manyP; rw [if_neg h1, if_neg (by omega), if_pos (by omega)]) (by omega) (by rw [hf]; rfl) (by rw [hf]; show (a : Int) % 16 = (a : Int) - 224; omega) (fun c => by rw [hf]; unfold folP; rw [decide_eq_true_eq]; dsimp only; omega)
    · subst hc
      refine key 4 rfl (by omega) rfl rfl (fun c => by show ((144 : Int) ≤ (c : Int) ∧ (c : Int) ≤ 191) ↔ _; unfold folP; rw [decide_eq_true_eq]; omega)
    · have hf : fstP a = ⟨3, (a : Int) % 8, 128, 191⟩ := by unfold fstP; rw [if_neg (by omega), if_neg (by omega), if_neg (by omega), if_neg (by omega), if_neg (by omega), if_pos (by omega)]
      refine key 4 (by unfold manyP; rw [if_neg h1, if_neg (by omega), if_neg (by omega), if_pos (by omega)]) (by omega) (by rw [hf]; rfl) (by rw [hf]; show (a : Int) % 8 = (a : Int) - 240; omega) (fun c => by rw [hf]; unfold folP; rw [decide_eq_true_eq]; dsimp only; omega)
    · subst hc
      refine key 4 rfl (by omega) rfl rfl (fun c => by show ((128 : Int) ≤ (c : Int) ∧ (c : Int) ≤ 143) ↔ _; unfold folP; rw [decide_eq_true_eq]; omega)
    · have hf : fstP a = ⟨-1, 65533, 128, 191⟩ := by unfold fstP; rw [if_neg (by omega), if_neg (by omega), if_neg (by omega), if_neg (by omega), if_neg (by omega), if_neg (by omega), if_neg (by omega)]
      have hm : manyP a = 0 := by unfold manyP; rw [if_neg h1, if_neg (by omega), if_neg (by omega), if_neg (by omega)]
      rw [hm, if_pos rfl] at hP
      rw [hf, hm, hP]
      rfl

/-! ### The walks -/
set_option maxRecDepth 100000 in
theorem umany_spec (c : UInt8) (w0 : World) (m0 : List Res) : PureC Tryz.prog 42 [.int .u8 c.toNat] w0 m0 (.int .i64 (manyP c.toNat : Nat)) := by
  have h256 := c.toNat_lt
  refine Ct.of Tryz.func42 rfl (by kernel_rfl) rfl ?_
  rcases (by omega : c.toNat < 128 ∨ (128 ≤ c.toNat ∧ c.toNat < 194) ∨ (194 ≤ c.toNat ∧ c.toNat ≤ 223) ∨ (224 ≤ c.toNat ∧ c.toNat ≤ 239) ∨ (240 ≤ c.toNat ∧ c.toNat ≤ 244) ∨ 244 < c.toNat) with h | h | h | h | h | h
  · have e : manyP c.toNat = 1 := by unfold manyP; rw [if_pos h]
    (refine c_sq fun k7 h7 => c_rg <| r_as rfl rfl <| r_nx h7 <| c_sq fun k9 h9 => c_sq fun k11 h11 => c_rg <| r_mv rfl rfl <| r_ltT rfl rfl rfl (by omega) <| r_nx h11 <| c_cT rfl <| c_sq fun k13 h13 => c_rg <| r_as rfl rfl <| r_nx h13 <| c_rt <| WE.then_r ?_; rotate_left)
    exact WE.ret1 () rfl rfl (by rw [e]; rfl) trivial Mem.drop
  · have e : manyP c.toNat = 0 := by unfold manyP; rw [if_neg (by omega), if_neg (by omega), if_neg (by omega), if_neg (by omega)]
    (refine c_sq fun k7 h7 => c_rg <| r_as rfl rfl <| r_nx h7 <| c_sq fun k9 h9 => c_sq fun k11 h11 => c_rg <| r_mv rfl rfl <| r_ltF rfl rfl rfl (by omega) <| r_nx h11 <| c_cF rfl <| c_sk <| WE.then_n h9 <| c_sq fun k13 h13 => c_sq fun k15 h15 => c_rg <| r_mv rfl rfl <| r_geF rfl rfl rfl (by omega) <| r_mv rfl rfl <| r_sk rfl rfl <| r_sk rfl rfl <| r_pF rfl rfl rfl <| r_nx h15 <| c_cF rfl <| c_sk <| WE.then_n h13 <| c_sq fun k17 h17 => c_sq fun k19 h19 => c_rg <| r_mv rfl rfl <| r_geF rfl rfl rfl (by omega) <| r_mv rfl rfl <| r_sk rfl rfl <| r_sk rfl rfl <| r_pF rfl rfl rfl <| r_nx h19 <| c_cF rfl <| c_sk <| WE.then_n h17 <| c_sq fun k21 h21 => c_sq fun k23 h23 => c_rg <| r_mv rfl rfl <| r_geF rfl rfl rfl (by omega) <| r_mv rfl rfl <| r_sk rfl rfl <| r_sk rfl rfl <| r_pF rfl rfl rfl <| r_nx h23 <| c_cF rfl <| c_sk <| WE.then_n h21 <| c_sq fun k25 h25 => c_rg <| r_as rfl rfl <| r_nx h25 <| c_rt ?_; rotate_left)
    exact WE.ret1 () rfl rfl (by rw [e]; rfl) trivial Mem.drop
  · have e : manyP c.toNat = 2 := by unfold manyP; rw [if_neg (by omega), if_pos h]
    (refine c_sq fun k7 h7 => c_rg <| r_as rfl rfl <| r_nx h7 <| c_sq fun k9 h9 => c_sq fun k11 h11 => c_rg <| r_mv rfl rfl <| r_ltF rfl rfl rfl (by omega) <| r_nx h11 <| c_cF rfl <| c_sk <| WE.then_n h9 <| c_sq fun k13 h13 => c_sq fun k15 h15 => c_rg <| r_mv rfl rfl <| r_geT rfl rfl rfl (by omega) <| r_mv rfl rfl <| r_mv rfl rfl <| r_leT rfl rfl rfl (by omega) <| r_pT rfl rfl rfl <| r_nx h15 <| c_cT rfl <| c_sq fun k17 h17 => c_rg <| r_as rfl rfl <| r_nx h17 <| c_rt <| WE.then_r ?_; rotate_left)
    exact WE.ret1 () rfl rfl (by rw [e]; rfl) trivial Mem.drop
  · have e : manyP c.toNat = 3 := by unfold manyP; rw [if_neg (by omega), if_neg (by omega), if_pos h]
    (refine c_sq fun k7 h7 => c_rg <| r_as rfl rfl <| r_nx h7 <| c_sq fun k9 h9 => c_sq fun k11 h11 => c_rg <| r_mv rfl rfl <| r_ltF rfl rfl rfl (by omega) <| r_nx h11 <| c_cF rfl <| c_sk <| WE.then_n h9 <| c_sq fun k13 h13 => c_sq fun k15 h15 => c_rg <| r_mv rfl rfl <| r_geT rfl rfl rfl (by omega) <| r_mv rfl rfl <| r_mv rfl rfl <| r_leF rfl rfl rfl (by omega) <| r_pT rfl rfl rfl <| r_nx h15 <| c_cF rfl <| c_sk <| WE.then_n h13 <| c_sq fun k17 h17 => c_sq fun k19 h19 => c_rg <| r_mv rfl rfl <| r_geT rfl rfl rfl (by omega) <| r_mv rfl rfl <| r_mv rfl rfl <| r_leT rfl rfl rfl (by omega) <| r_pT rfl rfl rfl <| r_nx h19 <| c_cT rfl <| c_sq fun k21 h21 => c_rg <| r_as rfl rfl <| r_nx h21 <| c_rt <| WE.then_r ?_; rotate_left)
    exact WE.ret1 () rfl rfl (by rw [e]; rfl) trivial Mem.drop
  · have e : manyP c.toNat = 4 := by unfold manyP; rw [if_neg (by omega), if_neg (by omega), if_neg (by omega), if_pos h]
    (refine c_sq fun k7 h7 => c_rg <| r_as rfl rfl <| r_nx h7 <| c_sq fun k9 h9 => c_sq fun k11 h11 => c_rg <| r_mv rfl rfl <| r_ltF rfl rfl rfl (by omega) <| r_nx h11 <| c_cF rfl <| c_sk <| WE.then_n h9 <| c_sq fun k13 h13 => c_sq fun k15 h15 => c_rg <| r_mv rfl rfl <| r_geT rfl rfl rfl (by omega) <| r_mv rfl rfl <| r_mv rfl rfl <| r_leF rfl rfl rfl (by omega) <| r_pT rfl rfl rfl <| r_nx h15 <| c_cF rfl <| c_sk <| WE.then_n h13 <| c_sq fun k17 h17 => c_sq fun k19 h19 => c_rg <| r_mv rfl rfl <| r_geT rfl rfl rfl (by omega) <| r_mv rfl rfl <| r_mv rfl rfl <| r_leF rfl rfl rfl (by omega) <| r_pT rfl rfl rfl <| r_nx h19 <| c_cF rfl <| c_sk <| WE.then_n h17 <| c_sq fun k21 h21 => c_sq fun k23 h23 => c_rg <| r_mv rfl rfl <| r_geT rfl rfl rfl (by omega) <| r_mv rfl rfl <| r_mv rfl rfl <| r_leT rfl rfl rfl (by omega) <| r_pT rfl rfl rfl <| r_nx h23 <| c_cT rfl <| c_sq fun k25 h25 => c_rg <| r_as rfl rfl <| r_nx h25 <| c_rt <| WE.then_r ?_; rotate_left)
    exact WE.ret1 () rfl rfl (by rw [e]; rfl) trivial Mem.drop
  · have e : manyP c.toNat = 0 := by unfold manyP; rw [if_neg (by omega), if_neg (by omega), if_neg (by omega), if_neg (by omega)]
    (refine c_sq fun k7 h7 => c_rg <| r_as rfl rfl <| r_nx h7 <| c_sq fun k9 h9 => c_sq fun k11 h11 => c_rg <| r_mv rfl rfl <| r_ltF rfl rfl rfl (by omega) <| r_nx h11 <| c_cF rfl <| c_sk <| WE.then_n h9 <| c_sq fun k13 h13 => c_sq fun k15 h15 => c_rg <| r_mv rfl rfl <| r_geT rfl rfl rfl (by omega) <| r_mv rfl rfl <| r_mv rfl rfl <| r_leF rfl rfl rfl (by omega) <| r_pT rfl rfl rfl <| r_nx h15 <| c_cF rfl <| c_sk <| WE.then_n h13 <| c_sq fun k17 h17 => c_sq fun k19 h19 => c_rg <| r_mv rfl rfl <| r_geT rfl rfl rfl (by omega) <| r_mv rfl rfl <| r_mv rfl rfl <| r_leF rfl rfl rfl (by omega) <| r_pT rfl rfl rfl <| r_nx h19 <| c_cF rfl <| c_sk <| WE.then_n h17 <| c_sq fun k21 h21 => c_sq fun k23 h23 => c_rg <| r_mv rfl rfl <| r_geT rfl rfl rfl (by omega) <| r_mv rfl rfl <| r_mv rfl rfl <| r_leF rfl rfl rfl (by omega) <| r_pT rfl rfl rfl <| r_nx h23 <| c_cF rfl <| c_sk <| WE.then_n h21 <| c_sq fun k25 h25 => c_rg <| r_as rfl rfl <| r_nx h25 <| c_rt ?_; rotate_left)
    exact WE.ret1 () rfl rfl (by rw [e]; rfl) trivial Mem.drop
set_option maxRecDepth 100000 in
theorem ufollows_spec (a c : UInt8) (i : Nat) (hi : i ≤ 1000000) (w0 : World) (m0 : List Res) : PureC Tryz.prog 75 [.int .u8 a.toNat, .int .u8 c.toNat, .int .i64 (i : Nat)] w0 m0 (.bool (folP a.toNat c.toNat i)) := by
  have h256 := a.toNat_lt
  have h257 := c.toNat_lt
  refine Ct.of Tryz.func75 rfl (by kernel_rfl) rfl ?_
  rcases (by omega : c.toNat < 128 ∨ 191 < c.toNat ∨ (128 ≤ c.toNat ∧ c.toNat ≤ 191)) with hc | hc | hc
  · have e : folP a.toNat c.toNat i = false := decide_eq_false (by omega)
    (refine c_sq fun k11 h11 => c_rg <| r_as rfl rfl <| r_nx h11 <| c_sq fun k13 h13 => c_sq fun k15 h15 => c_rg <| r_mv rfl rfl <| r_ltT rfl rfl rfl (by omega) <| r_mv rfl rfl <| r_sk rfl rfl <| r_sk rfl rfl <| r_pT rfl rfl rfl <| r_nx h15 <| c_cT rfl <| c_sq fun k17 h17 => c_rg <| r_as rfl rfl <| r_nx h17 <| c_rt <| WE.then_r ?_; rotate_left)
    exact WE.ret1 () rfl rfl (by rw [e]; rfl) trivial Mem.drop
  · have e : folP a.toNat c.toNat i = false := decide_eq_false (by omega)
    (refine c_sq fun k11 h11 => c_rg <| r_as rfl rfl <| r_nx h11 <| c_sq fun k13 h13 => c_sq fun k15 h15 => c_rg <| r_mv rfl rfl <| r_ltF rfl rfl rfl (by omega) <| r_mv rfl rfl <| r_mv rfl rfl <| r_gtT rfl rfl rfl (by omega) <| r_pF rfl rfl rfl <| r_nx h15 <| c_cT rfl <| c_sq fun k17 h17 => c_rg <| r_as rfl rfl <| r_nx h17 <| c_rt <| WE.then_r ?_; rotate_left)
    exact WE.ret1 () rfl rfl (by rw [e]; rfl) trivial Mem.drop
  · by_cases h1 : 1 < i
    · have e : folP a.toNat c.toNat i = true := decide_eq_true (by omega)
      (refine c_sq fun k12 h12 => c_rg <| r_as rfl rfl <| r_nx h12 <| c_sq fun k14 h14 => c_sq fun k16 h16 => c_rg <| r_mv rfl rfl <| r_ltF rfl rfl rfl (by omega) <| r_mv rfl rfl <| r_mv rfl rfl <| r_gtF rfl rfl rfl (by omega) <| r_pF rfl rfl rfl <| r_nx h16 <| c_cF rfl <| c_sk <| WE.then_n h14 <| c_sq fun k18 h18 => c_sq fun k20 h20 => c_rg <| r_mv rfl rfl <| r_gtT rfl rfl rfl (by omega) <| r_nx h20 <| c_cT rfl <| c_sq fun k22 h22 => c_rg <| r_as rfl rfl <| r_nx h22 <| c_rt <| WE.then_r ?_; rotate_left)
      exact WE.ret1 () rfl rfl (by rw [e]; rfl) trivial Mem.drop
    · rcases (by omega : (a.toNat = 224 ∧ c.toNat < 160) ∨ (a.toNat = 224 ∧ 160 ≤ c.toNat) ∨ (a.toNat = 237 ∧ 159 < c.toNat) ∨ (a.toNat = 237 ∧ c.toNat ≤ 159) ∨ (a.toNat = 240 ∧ c.toNat < 144) ∨ (a.toNat = 240 ∧ 144 ≤ c.toNat) ∨ (a.toNat = 244 ∧ 143 < c.toNat) ∨ (a.toNat = 244 ∧ c.toNat ≤ 143) ∨ (a.toNat ≠ 224 ∧ a.toNat ≠ 237 ∧ a.toNat ≠ 240 ∧ a.toNat ≠ 244)) with h | h | h | h | h | h | h | h | h
      · have e : folP a.toNat c.toNat i = false := decide_eq_false (by omega)
        (refine c_sq fun k13 h13 => c_rg <| r_as rfl rfl <| r_nx h13 <| c_sq fun k15 h15 => c_sq fun k17 h17 => c_rg <| r_mv rfl rfl <| r_ltF rfl rfl rfl (by omega) <| r_mv rfl rfl <| r_mv rfl rfl <| r_gtF rfl rfl rfl (by omega) <| r_pF rfl rfl rfl <| r_nx h17 <| c_cF rfl <| c_sk <| WE.then_n h15 <| c_sq fun k19 h19 => c_sq fun k21 h21 => c_rg <| r_mv rfl rfl <| r_gtF rfl rfl rfl (by omega) <| r_nx h21 <| c_cF rfl <| c_sk <| WE.then_n h19 <| c_sq fun k23 h23 => c_rg <| r_mv rfl rfl <| r_eqT rfl rfl rfl (by omega) <| r_mv rfl rfl <| r_mv rfl rfl <| r_ltT rfl rfl rfl (by omega) <| r_pT rfl rfl rfl <| r_mv rfl rfl <| r_sk rfl rfl <| r_sk rfl rfl <| r_sk rfl rfl <| r_sk rfl rfl <| r_sk rfl rfl <| r_sk rfl rfl <| r_pT rfl rfl rfl <| r_mv rfl rfl <| r_sk rfl rfl <| r_sk rfl rfl <| r_sk rfl rfl <| r_sk rfl rfl <| r_sk rfl rfl <| r_sk rfl rfl <| r_pT rfl rfl rfl <| r_mv rfl rfl <| r_sk rfl rfl <| r_sk rfl rfl <| r_sk rfl rfl <| r_sk rfl rfl <| r_sk rfl rfl <| r_sk rfl rfl <| r_pT rfl rfl rfl <| r_no rfl rfl rfl <| r_as rfl rfl <| r_nx h23 <| c_rt ?_; rotate_left)
        exact WE.ret1 () rfl rfl (by rw [e]; rfl) trivial Mem.drop
      · have e : folP a.toNat c.toNat i = true := decide_eq_true (by omega)
        (refine c_sq fun k13 h13 => c_rg <| r_as rfl rfl <| r_nx h13 <| c_sq fun k15 h15 => c_sq fun k17 h17 => c_rg <| r_mv rfl rfl <| r_ltF rfl rfl rfl (by omega) <| r_mv rfl rfl <| r_mv rfl rfl <| r_gtF rfl rfl rfl (by omega) <| r_pF rfl rfl rfl <| r_nx h17 <| c_cF rfl <| c_sk <| WE.then_n h15 <| c_sq fun k19 h19 => c_sq fun k21 h21 => c_rg <| r_mv rfl rfl <| r_gtF rfl rfl rfl (by omega) <| r_nx h21 <| c_cF rfl <| c_sk <| WE.then_n h19 <| c_sq fun k23 h23 => c_rg <| r_mv rfl rfl <| r_eqT rfl rfl rfl (by omega) <| r_mv rfl rfl <| r_mv rfl rfl <| r_ltF rfl rfl rfl (by omega) <| r_pT rfl rfl rfl <| r_mv rfl rfl <| r_mv rfl rfl <| r_eqF rfl rfl rfl (by omega) <| r_mv rfl rfl <| r_sk rfl rfl <| r_sk rfl rfl <| r_pF rfl rfl rfl <| r_pF rfl rfl rfl <| r_mv rfl rfl <| r_mv rfl rfl <| r_eqF rfl rfl rfl (by omega) <| r_mv rfl rfl <| r_sk rfl rfl <| r_sk rfl rfl <| r_pF rfl rfl rfl <| r_pF rfl rfl rfl <| r_mv rfl rfl <| r_mv rfl rfl <| r_eqF rfl rfl rfl (by omega) <| r_mv rfl rfl <| r_sk rfl rfl <| r_sk rfl rfl <| r_pF rfl rfl rfl <| r_pF rfl rfl rfl <| r_no rfl rfl rfl <| r_as rfl rfl <| r_nx h23 <| c_rt ?_; rotate_left)
        exact WE.ret1 () rfl rfl (by rw [e]; rfl) trivial Mem.drop
      · have e : folP a.toNat c.toNat i = false := decide_eq_false (by omega)
        (refine c_sq fun k13 h13 => c_rg <| r_as rfl rfl <| r_nx h13 <| c_sq fun k15 h15 => c_sq fun k17 h17 => c_rg <| r_mv rfl rfl <| r_ltF rfl rfl rfl (by omega) <| r_mv rfl rfl <| r_mv rfl rfl <| r_gtF rfl rfl rfl (by omega) <| r_pF rfl rfl rfl <| r_nx h17 <| c_cF rfl <| c_sk <| WE.then_n h15 <| c_sq fun k19 h19 => c_sq fun k21 h21 => c_rg <| r_mv rfl rfl <| r_gtF rfl rfl rfl (by omega) <| r_nx h21 <| c_cF rfl <| c_sk <| WE.then_n h19 <| c_sq fun k23 h23 => c_rg <| r_mv rfl rfl <| r_eqF rfl rfl rfl (by omega) <| r_mv rfl rfl <| r_sk rfl rfl <| r_sk rfl rfl <| r_pF rfl rfl rfl <| r_mv rfl rfl <| r_mv rfl rfl <| r_eqT rfl rfl rfl (by omega) <| r_mv rfl rfl <| r_mv rfl rfl <| r_gtT rfl rfl rfl (by omega) <| r_pT rfl rfl rfl <| r_pF rfl rfl rfl <| r_mv rfl rfl <| r_sk rfl rfl <| r_sk rfl rfl <| r_sk rfl rfl <| r_sk rfl rfl <| r_sk rfl rfl <| r_sk rfl rfl <| r_pT rfl rfl rfl <| r_mv rfl rfl <| r_sk rfl rfl <| r_sk rfl rfl <| r_sk rfl rfl <| r_sk rfl rfl <| r_sk rfl rfl <| r_sk rfl rfl <| r_pT rfl rfl rfl <| r_no rfl rfl rfl <| r_as rfl rfl <| r_nx h23 <| c_rt ?_; rotate_left)
        exact WE.ret1 () rfl rfl (by rw [e]; rfl) trivial Mem.drop
      · have e : folP a.toNat c.toNat i = true := decide_eq_true (by omega)
        (refine c_sq fun k13 h13 => c_rg <| r_as rfl rfl <| r_nx h13 <| c_sq fun k15 h15 => c_sq fun k17 h17 => c_rg <| r_mv rfl rfl <| r_ltF rfl rfl rfl (by omega) <| r_mv rfl rfl <| r_mv rfl rfl <| r_gtF rfl rfl rfl (by omega) <| r_pF rfl rfl rfl <| r_nx h17 <| c_cF rfl <| c_sk <| WE.then_n h15 <| c_sq fun k19 h19 => c_sq fun k21 h21 => c_rg <| r_mv rfl rfl <| r_gtF rfl rfl rfl (by omega) <| r_nx h21 <| c_cF rfl <| c_sk <| WE.then_n h19 <| c_sq fun k23 h23 => c_rg <| r_mv rfl rfl <| r_eqF rfl rfl rfl (by omega) <| r_mv rfl rfl <| r_sk rfl rfl <| r_sk rfl rfl <| r_pF rfl rfl rfl <| r_mv rfl rfl <| r_mv rfl rfl <| r_eqT rfl rfl rfl (by omega) <| r_mv rfl rfl <| r_mv rfl rfl <| r_gtF rfl rfl rfl (by omega) <| r_pT rfl rfl rfl <| r_pF rfl rfl rfl <| r_mv rfl rfl <| r_mv rfl rfl <| r_eqF rfl rfl rfl (by omega) <| r_mv rfl rfl <| r_sk rfl rfl <| r_sk rfl rfl <| r_pF rfl rfl rfl <| r_pF rfl rfl rfl <| r_mv rfl rfl <| r_mv rfl rfl <| r_eqF rfl rfl rfl (by omega) <| r_mv rfl rfl <| r_sk rfl rfl <| r_sk rfl rfl <| r_pF rfl rfl rfl <| r_pF rfl rfl rfl <| r_no rfl rfl rfl <| r_as rfl rfl <| r_nx h23 <| c_rt ?_; rotate_left)
        exact WE.ret1 () rfl rfl (by rw [e]; rfl) trivial Mem.drop
      · have e : folP a.toNat c.toNat i = false := decide_eq_false (by omega)
        (refine c_sq fun k13 h13 => c_rg <| r_as rfl rfl <| r_nx h13 <| c_sq fun k15 h15 => c_sq fun k17 h17 => c_rg <| r_mv rfl rfl <| r_ltF rfl rfl rfl (by omega) <| r_mv rfl rfl <| r_mv rfl rfl <| r_gtF rfl rfl rfl (by omega) <| r_pF rfl rfl rfl <| r_nx h17 <| c_cF rfl <| c_sk <| WE.then_n h15 <| c_sq fun k19 h19 => c_sq fun k21 h21 => c_rg <| r_mv rfl rfl <| r_gtF rfl rfl rfl (by omega) <| r_nx h21 <| c_cF rfl <| c_sk <| WE.then_n h19 <| c_sq fun k23 h23 => c_rg <| r_mv rfl rfl <| r_eqF rfl rfl rfl (by omega) <| r_mv rfl rfl <| r_sk rfl rfl <| r_sk rfl rfl <| r_pF rfl rfl rfl <| r_mv rfl rfl <| r_mv rfl rfl <| r_eqF rfl rfl rfl (by omega) <| r_mv rfl rfl <| r_sk rfl rfl <| r_sk rfl rfl <| r_pF rfl rfl rfl <| r_pF rfl rfl rfl <| r_mv rfl rfl <| r_mv rfl rfl <| r_eqT rfl rfl rfl (by omega) <| r_mv rfl rfl <| r_mv rfl rfl <| r_ltT rfl rfl rfl (by omega) <| r_pT rfl rfl rfl <| r_pF rfl rfl rfl <| r_mv rfl rfl <| r_sk rfl rfl <| r_sk rfl rfl <| r_sk rfl rfl <| r_sk rfl rfl <| r_sk rfl rfl <| r_sk rfl rfl <| r_pT rfl rfl rfl <| r_no rfl rfl rfl <| r_as rfl rfl <| r_nx h23 <| c_rt ?_; rotate_left)
        exact WE.ret1 () rfl rfl (by rw [e]; rfl) trivial Mem.drop
      · have e : folP a.toNat c.toNat i = true := decide_eq_true (by omega)
        (refine c_sq fun k13 h13 => c_rg <| r_as rfl rfl <| r_nx h13 <| c_sq fun k15 h15 => c_sq fun k17 h17 => c_rg <| r_mv rfl rfl <| r_ltF rfl rfl rfl (by omega) <| r_mv rfl rfl <| r_mv rfl rfl <| r_gtF rfl rfl rfl (by omega) <| r_pF rfl rfl rfl <| r_nx h17 <| c_cF rfl <| c_sk <| WE.then_n h15 <| c_sq fun k19 h19 => c_sq fun k21 h21 => c_rg <| r_mv rfl rfl <| r_gtF rfl rfl rfl (by omega) <| r_nx h21 <| c_cF rfl <| c_sk <| WE.then_n h19 <| c_sq fun k23 h23 => c_rg <| r_mv rfl rfl <| r_eqF rfl rfl rfl (by omega) <| r_mv rfl rfl <| r_sk rfl rfl <| r_sk rfl rfl <| r_pF rfl rfl rfl <| r_mv rfl rfl <| r_mv rfl rfl <| r_eqF rfl rfl rfl (by omega) <| r_mv rfl rfl <| r_sk rfl rfl <| r_sk rfl rfl <| r_pF rfl rfl rfl <| r_pF rfl rfl rfl <| r_mv rfl rfl <| r_mv rfl rfl <| r_eqT rfl rfl rfl (by omega) <| r_mv rfl rfl <| r_mv rfl rfl <| r_ltF rfl rfl rfl (by omega) <| r_pT rfl rfl rfl <| r_pF rfl rfl rfl <| r_mv rfl rfl <| r_mv rfl rfl <| r_eqF rfl rfl rfl (by omega) <| r_mv rfl rfl <| r_sk rfl rfl <| r_sk rfl rfl <| r_pF rfl rfl rfl <| r_pF rfl rfl rfl <| r_no rfl rfl rfl <| r_as rfl rfl <| r_nx h23 <| c_rt ?_; rotate_left)
        exact WE.ret1 () rfl rfl (by rw [e]; rfl) trivial Mem.drop
      · have e : folP a.toNat c.toNat i = false := decide_eq_false (by omega)
        (refine c_sq fun k13 h13 => c_rg <| r_as rfl rfl <| r_nx h13 <| c_sq fun k15 h15 => c_sq fun k17 h17 => c_rg <| r_mv rfl rfl <| r_ltF rfl rfl rfl (by omega) <| r_mv rfl rfl <| r_mv rfl rfl <| r_gtF rfl rfl rfl (by omega) <| r_pF rfl rfl rfl <| r_nx h17 <| c_cF rfl <| c_sk <| WE.then_n h15 <| c_sq fun k19 h19 => c_sq fun k21 h21 => c_rg <| r_mv rfl rfl <| r_gtF rfl rfl rfl (by omega) <| r_nx h21 <| c_cF rfl <| c_sk <| WE.then_n h19 <| c_sq fun k23 h23 => c_rg <| r_mv rfl rfl <| r_eqF rfl rfl rfl (by omega) <| r_mv rfl rfl <| r_sk rfl rfl <| r_sk rfl rfl <| r_pF rfl rfl rfl <| r_mv rfl rfl <| r_mv rfl rfl <| r_eqF rfl rfl rfl (by omega) <| r_mv rfl rfl <| r_sk rfl rfl <| r_sk rfl rfl <| r_pF rfl rfl rfl <| r_pF rfl rfl rfl <| r_mv rfl rfl <| r_mv rfl rfl <| r_eqF rfl rfl rfl (by omega) <| r_mv rfl rfl <| r_sk rfl rfl <| r_sk rfl rfl <| r_pF rfl rfl rfl <| r_pF rfl rfl rfl <| r_mv rfl rfl <| r_mv rfl rfl <| r_eqT rfl rfl rfl (by omega) <| r_mv rfl rfl <| r_mv rfl rfl <| r_gtT rfl rfl rfl (by omega) <| r_pT rfl rfl rfl <| r_pF rfl rfl rfl <| r_no rfl rfl rfl <| r_as rfl rfl <| r_nx h23 <| c_rt ?_; rotate_left)
        exact WE.ret1 () rfl rfl (by rw [e]; rfl) trivial Mem.drop
      · have e : folP a.toNat c.toNat i = true := decide_eq_true (by omega)
        (refine c_sq fun k13 h13 => c_rg <| r_as rfl rfl <| r_nx h13 <| c_sq fun k15 h15 => c_sq fun k17 h17 => c_rg <| r_mv rfl rfl <| r_ltF rfl rfl rfl (by omega) <| r_mv rfl rfl <| r_mv rfl rfl <| r_gtF rfl rfl rfl (by omega) <| r_pF rfl rfl rfl <| r_nx h17 <| c_cF rfl <| c_sk <| WE.then_n h15 <| c_sq fun k19 h19 => c_sq fun k21 h21 => c_rg <| r_mv rfl rfl <| r_gtF rfl rfl rfl (by omega) <| r_nx h21 <| c_cF rfl <| c_sk <| WE.then_n h19 <| c_sq fun k23 h23 => c_rg <| r_mv rfl rfl <| r_eqF rfl rfl rfl (by omega) <| r_mv rfl rfl <| r_sk rfl rfl <| r_sk rfl rfl <| r_pF rfl rfl rfl <| r_mv rfl rfl <| r_mv rfl rfl <| r_eqF rfl rfl rfl (by omega) <| r_mv rfl rfl <| r_sk rfl rfl <| r_sk rfl rfl <| r_pF rfl rfl rfl <| r_pF rfl rfl rfl <| r_mv rfl rfl <| r_mv rfl rfl <| r_eqF rfl rfl rfl (by omega) <| r_mv rfl rfl <| r_sk rfl rfl <| r_sk rfl rfl <| r_pF rfl rfl rfl <| r_pF rfl rfl rfl <| r_mv rfl rfl <| r_mv rfl rfl <| r_eqT rfl rfl rfl (by omega) <| r_mv rfl rfl <| r_mv rfl rfl <| r_gtF rfl rfl rfl (by omega) <| r_pT rfl rfl rfl <| r_pF rfl rfl rfl <| r_no rfl rfl rfl <| r_as rfl rfl <| r_nx h23 <| c_rt ?_; rotate_left)
        exact WE.ret1 () rfl rfl (by rw [e]; rfl) trivial Mem.drop
      · have e : folP a.toNat c.toNat i = true := decide_eq_true (by omega)
        (refine c_sq fun k13 h13 => c_rg <| r_as rfl rfl <| r_nx h13 <| c_sq fun k15 h15 => c_sq fun k17 h17 => c_rg <| r_mv rfl rfl <| r_ltF rfl rfl rfl (by omega) <| r_mv rfl rfl <| r_mv rfl rfl <| r_gtF rfl rfl rfl (by omega) <| r_pF rfl rfl rfl <| r_nx h17 <| c_cF rfl <| c_sk <| WE.then_n h15 <| c_sq fun k19 h19 => c_sq fun k21 h21 => c_rg <| r_mv rfl rfl <| r_gtF rfl rfl rfl (by omega) <| r_nx h21 <| c_cF rfl <| c_sk <| WE.then_n h19 <| c_sq fun k23 h23 => c_rg <| r_mv rfl rfl <| r_eqF rfl rfl rfl (by omega) <| r_mv rfl rfl <| r_sk rfl rfl <| r_sk rfl rfl <| r_pF rfl rfl rfl <| r_mv rfl rfl <| r_mv rfl rfl <| r_eqF rfl rfl rfl (by omega) <| r_mv rfl rfl <| r_sk rfl rfl <| r_sk rfl rfl <| r_pF rfl rfl rfl <| r_pF rfl rfl rfl <| r_mv rfl rfl <| r_mv rfl rfl <| r_eqF rfl rfl rfl (by omega) <| r_mv rfl rfl <| r_sk rfl rfl <| r_sk rfl rfl <| r_pF rfl rfl rfl <| r_pF rfl rfl rfl <| r_mv rfl rfl <| r_mv rfl rfl <| r_eqF rfl rfl rfl (by omega) <| r_mv rfl rfl <| r_sk rfl rfl <| r_sk rfl rfl <| r_pF rfl rfl rfl <| r_pF rfl rfl rfl <| r_no rfl rfl rfl <| r_as rfl rfl <| r_nx h23 <| c_rt ?_; rotate_left)
        exact WE.ret1 () rfl rfl (by rw [e]; rfl) trivial Mem.drop
set_option maxRecDepth 100000 in
theorem ubegin_spec (s : ByteArray) (k0 : Nat) (hk : k0 < s.size) (hs : s.size ≤ 1000000000) (w0 : World) (m0 : List Res) : PureC Tryz.prog 41 [.string s, .int .i64 (k0 : Nat)] w0 m0 (.int .i64 (bgP (s.data.toList.drop k0) : Nat)) := by
  have hb := get_at s k0 hk
  have hL : ∀ j, (s.data.toList.drop k0).getD j 0 = s.data.toList.getD (k0 + j) 0 := fun j => by rw [List.getD_eq_getElem?_getD, List.getElem?_drop, ← List.getD_eq_getElem?_getD]
  have hl : (s.data.toList.drop k0).length = s.size - k0 := by rw [List.length_drop, size_list]
  have h0 : (s.data.toList.drop k0).getD 0 0 = s.get! k0 := by rw [hL, List.getD_eq_getElem?_getD, Nat.add_zero, hb]; rfl
  have hP : bgP (s.data.toList.drop k0) = if manyP (s.get! k0).toNat = 0 then 0 else bgG (s.data.toList.drop k0) (s.get! k0).toNat (manyP (s.get! k0).toNat) (manyP (s.get! k0).toNat) 1 := by unfold bgP; rw [h0]
  generalize s.get! k0 = a at hb hP
  have hn : manyP a.toNat ≤ 4 := by unfold manyP; (repeat' split) <;> omega
  refine Ct.of Tryz.func41 rfl (by kernel_rfl) rfl ?_
  (refine c_sq fun k15 h15 => c_rg <| r_as rfl rfl <| r_nx h15 <| c_sq fun k17 h17 => c_rg <| r_mv rfl rfl <| r_mv rfl rfl ?_; rotate_left)
  refine r_iS (v := a) Tryz.underlying9 rfl rfl rfl (by omega) (by rw [← Array.getElem?_toList]; exact hb) ?_
  refine WX.pure rfl rfl (umany_spec a _ _) rfl rfl ?_
  generalize manyP a.toNat = n at hP hn ⊢
  (refine r_as rfl rfl <| r_nx h17 <| c_sq fun k22 h22 => c_rg <| r_mv rfl rfl <| r_mn rfl rfl rfl <| r_as rfl rfl <| r_nx h22 <| c_sq fun k24 h24 => c_bl ?_; rotate_left)
  by_cases h1 : n = 0
  · subst h1
    rw [if_pos rfl] at hP
    refine WC.loop (α := Unit) (fun _ => [(6, .int .i64 0)]) (fun _ => []) (fun _ => True) (fun _ => 0) () trivial ⟨rfl, trivial⟩ Mem.keep ?_
    rintro _ _
    (refine c_sq fun k31 h31 => c_sq fun k33 h33 => c_dr rfl (by kernel_rfl) (by kernel_rfl) <| r_mv rfl rfl <| r_gtF rfl rfl rfl (by omega) <| r_mv rfl rfl <| r_sk rfl rfl <| r_sk rfl rfl <| r_sk rfl rfl <| r_pF rfl rfl rfl <| r_mv rfl rfl <| r_sk rfl rfl <| r_sk rfl rfl <| r_sk rfl rfl <| r_sk rfl rfl <| r_sk rfl rfl <| r_sk rfl rfl <| r_pF rfl rfl rfl <| r_mv rfl rfl <| r_sk rfl rfl <| r_sk rfl rfl <| r_sk rfl rfl <| r_sk rfl rfl <| r_sk rfl rfl <| r_sk rfl rfl <| r_sk rfl rfl <| r_sk rfl rfl <| r_sk rfl rfl <| r_sk rfl rfl <| r_pF rfl rfl rfl <| r_nx h33 <| c_cF rfl <| c_ex <| WE.then_x <| WE.then_x <| WE.blk_x <| WE.then_n h24 <| c_sq fun k35 h35 => c_rg <| r_mv rfl rfl <| r_as rfl rfl <| r_nx h35 <| c_rt ?_; rotate_left)
    exact WE.ret1 () rfl rfl (by rw [hP]; rfl) trivial Mem.drop
  · rw [if_neg h1] at hP
    rw [show min (n : Int) 1 = ((1 : Nat) : Int) by omega]
    have hbd := bgG_le (s.data.toList.drop k0) a.toNat n n 1 (by omega)
    refine WC.loop (α := Nat) (fun k => [(0, .string s), (1, .int .i64 (k0 : Nat)), (5, .int .i64 (n : Nat)), (6, .int .i64 (k : Nat))]) (fun _ => []) (fun k => 1 ≤ k ∧ k ≤ n ∧ bgG (s.data.toList.drop k0) a.toNat n (n - k + 1) k = bgP (s.data.toList.drop k0)) (fun k => n - k) 1 ⟨Nat.le_refl _, by omega, by rw [hP, show n - 1 + 1 = n by omega]⟩ ⟨rfl, rfl, rfl, rfl, trivial⟩ Mem.keep ?_
    rintro k ⟨g1, g2, g3⟩
    rw [bgG, hl] at g3
    by_cases hkn : k < n
    · by_cases hks : k < s.size - k0
      · have hb2 := get_at s (k0 + k) (by omega)
        have hc : (s.data.toList.drop k0).getD k 0 = s.get! (k0 + k) := by rw [hL, List.getD_eq_getElem?_getD, hb2]; rfl
        rw [hc] at g3
        generalize s.get! (k0 + k) = c at hb2 g3
        cases hfo : folP a.toNat c.toNat k with
        | true =>
          rw [if_pos ⟨hkn, hks, hfo⟩] at g3
          (refine c_sq fun k45 h45 => c_sq fun k47 h47 => c_dr rfl (by kernel_rfl) (by kernel_rfl) <| r_mv rfl rfl <| r_gtT rfl rfl rfl (by omega) <| r_mv rfl rfl <| r_mv rfl rfl <| r_mv rfl rfl <| r_ltT rfl rfl rfl (by omega) <| r_pT rfl rfl rfl <| r_mv rfl rfl <| r_mv rfl rfl <| r_mv rfl rfl <| r_ad rfl rfl rfl (wadd64 (by omega)) <| r_mv rfl rfl <| r_lS Tryz.underlying9 rfl rfl <| r_ltT rfl rfl rfl (by omega) <| r_pT rfl rfl rfl <| r_mv rfl rfl <| r_mv rfl rfl <| r_mv rfl rfl ?_; rotate_left)
          refine r_iS (v := a) Tryz.underlying9 rfl rfl rfl (by omega) (by rw [← Array.getElem?_toList]; exact hb) ?_
          (refine r_mv rfl rfl <| r_mv rfl rfl <| r_mv rfl rfl <| r_ad rfl rfl rfl (wadd64 (by omega)) ?_; rotate_left)
          refine r_iS (v := c) Tryz.underlying9 rfl rfl rfl (by omega) (by rw [← Array.getElem?_toList]; exact hb2) ?_
          (refine r_mv rfl rfl ?_; rotate_left)
          refine WX.pure rfl rfl (ufollows_spec a c k (by omega) _ _) rfl rfl ?_
          rw [hfo]
          (refine r_pT rfl rfl rfl <| r_nx h47 <| c_cT rfl <| c_sk <| WE.then_n h45 <| c_bl <| c_rg <| r_mv rfl rfl <| r_ad rfl rfl rfl (wadd64 (by omega)) <| r_as rfl rfl <| r_nl <| WE.blk_n ?_; rotate_left)
          exact WE.back (k + 1) ⟨by omega, by omega, by rw [show n - (k + 1) + 1 = n - k by omega]; exact g3⟩ (by omega) ⟨rfl, rfl, rfl, rfl, trivial⟩ Mem.keep
        | false =>
          rw [if_neg (fun h => by rw [hfo] at h; cases h.2.2)] at g3
          (refine c_sq fun k45 h45 => c_sq fun k47 h47 => c_dr rfl (by kernel_rfl) (by kernel_rfl) <| r_mv rfl rfl <| r_gtT rfl rfl rfl (by omega) <| r_mv rfl rfl <| r_mv rfl rfl <| r_mv rfl rfl <| r_ltT rfl rfl rfl (by omega) <| r_pT rfl rfl rfl <| r_mv rfl rfl <| r_mv rfl rfl <| r_mv rfl rfl <| r_ad rfl rfl rfl (wadd64 (by omega)) <| r_mv rfl rfl <| r_lS Tryz.underlying9 rfl rfl <| r_ltT rfl rfl rfl (by omega) <| r_pT rfl rfl rfl <| r_mv rfl rfl <| r_mv rfl rfl <| r_mv rfl rfl ?_; rotate_left)
          refine r_iS (v := a) Tryz.underlying9 rfl rfl rfl (by omega) (by rw [← Array.getElem?_toList]; exact hb) ?_
          (refine r_mv rfl rfl <| r_mv rfl rfl <| r_mv rfl rfl <| r_ad rfl rfl rfl (wadd64 (by omega)) ?_; rotate_left)
          refine r_iS (v := c) Tryz.underlying9 rfl rfl rfl (by omega) (by rw [← Array.getElem?_toList]; exact hb2) ?_
          (refine r_mv rfl rfl ?_; rotate_left)
          refine WX.pure rfl rfl (ufollows_spec a c k (by omega) _ _) rfl rfl ?_
          rw [hfo]
          (refine r_pT rfl rfl rfl <| r_nx h47 <| c_cF rfl <| c_ex <| WE.then_x <| WE.then_x <| WE.blk_x <| WE.then_n h24 <| c_sq fun k49 h49 => c_rg <| r_mv rfl rfl <| r_as rfl rfl <| r_nx h49 <| c_rt ?_; rotate_left)
          exact WE.ret1 () rfl rfl (by rw [← g3]; rfl) trivial Mem.drop
      · rw [if_neg (fun h => hks h.2.1)] at g3
        (refine c_sq fun k38 h38 => c_sq fun k40 h40 => c_dr rfl (by kernel_rfl) (by kernel_rfl) <| r_mv rfl rfl <| r_gtT rfl rfl rfl (by omega) <| r_mv rfl rfl <| r_mv rfl rfl <| r_mv rfl rfl <| r_ltT rfl rfl rfl (by omega) <| r_pT rfl rfl rfl <| r_mv rfl rfl <| r_mv rfl rfl <| r_mv rfl rfl <| r_ad rfl rfl rfl (wadd64 (by omega)) <| r_mv rfl rfl <| r_lS Tryz.underlying9 rfl rfl <| r_ltF rfl rfl rfl (by omega) <| r_pT rfl rfl rfl <| r_mv rfl rfl <| r_sk rfl rfl <| r_sk rfl rfl <| r_sk rfl rfl <| r_sk rfl rfl <| r_sk rfl rfl <| r_sk rfl rfl <| r_sk rfl rfl <| r_sk rfl rfl <| r_sk rfl rfl <| r_sk rfl rfl <| r_pF rfl rfl rfl <| r_nx h40 <| c_cF rfl <| c_ex <| WE.then_x <| WE.then_x <| WE.blk_x <| WE.then_n h24 <| c_sq fun k42 h42 => c_rg <| r_mv rfl rfl <| r_as rfl rfl <| r_nx h42 <| c_rt ?_; rotate_left)
        exact WE.ret1 () rfl rfl (by rw [← g3]; rfl) trivial Mem.drop
    · rw [if_neg (fun h => hkn h.1)] at g3
      (refine c_sq fun k37 h37 => c_sq fun k39 h39 => c_dr rfl (by kernel_rfl) (by kernel_rfl) <| r_mv rfl rfl <| r_gtT rfl rfl rfl (by omega) <| r_mv rfl rfl <| r_mv rfl rfl <| r_mv rfl rfl <| r_ltF rfl rfl rfl (by omega) <| r_pT rfl rfl rfl <| r_mv rfl rfl <| r_sk rfl rfl <| r_sk rfl rfl <| r_sk rfl rfl <| r_sk rfl rfl <| r_sk rfl rfl <| r_sk rfl rfl <| r_pF rfl rfl rfl <| r_mv rfl rfl <| r_sk rfl rfl <| r_sk rfl rfl <| r_sk rfl rfl <| r_sk rfl rfl <| r_sk rfl rfl <| r_sk rfl rfl <| r_sk rfl rfl <| r_sk rfl rfl <| r_sk rfl rfl <| r_sk rfl rfl <| r_pF rfl rfl rfl <| r_nx h39 <| c_cF rfl <| c_ex <| WE.then_x <| WE.then_x <| WE.blk_x <| WE.then_n h24 <| c_sq fun k41 h41 => c_rg <| r_mv rfl rfl <| r_as rfl rfl <| r_nx h41 <| c_rt ?_; rotate_left)
      exact WE.ret1 () rfl rfl (by rw [← g3]; rfl) trivial Mem.drop
/-- What a value may be before its i-th byte. -/
def uvB (i : Nat) : Int := if i = 1 then 255 else if i = 2 then 16448 else if i = 3 then 1052800 else 67379328
set_option maxRecDepth 100000 in
theorem uvalue_spec (s : ByteArray) (h1 : 1 ≤ s.size) (h4 : s.size ≤ 4) (w0 : World) (m0 : List Res) : PureC Tryz.prog 43 [.string s] w0 m0 (.int .i32 (uvalP s.data.toList s.size)) := by
  have hb := get_at s 0 (by omega)
  have h0 : s.data.toList.getD 0 0 = s.get! 0 := by rw [List.getD_eq_getElem?_getD, hb]; rfl
  have hP : uvalP s.data.toList s.size = if s.size = 1 then ((s.get! 0).toNat : Int) else uvalG s.data.toList (s.size - 1) 1 (((s.get! 0).toNat : Int) - baseP s.size) := by unfold uvalP; rw [h0]
  generalize s.get! 0 = a at hb hP
  have h256 := a.toNat_lt
  generalize uvalP s.data.toList s.size = V at hP ⊢
  refine Ct.of Tryz.func43 rfl (by kernel_rfl) rfl ?_
  by_cases hs1 : s.size = 1
  · rw [if_pos hs1] at hP
    subst hP
    (refine c_sq fun k16 h16 => c_rg <| r_as rfl rfl <| r_nx h16 <| c_sq fun k18 h18 => c_sq fun k20 h20 => c_rg <| r_mv rfl rfl <| r_lS Tryz.underlying9 rfl rfl <| r_eqT rfl rfl rfl (by omega) <| r_nx h20 <| c_cT rfl <| c_sq fun k22 h22 => c_rg <| r_mv rfl rfl ?_; rotate_left)
    refine r_iS (v := a) Tryz.underlying9 rfl rfl rfl (by omega) (by rw [← Array.getElem?_toList]; exact hb) ?_
    (refine r_cv rfl (cv_int (k' := .i32) rfl Tryz.underlying21 (w32 (by omega))) rfl <| r_as rfl rfl <| r_nx h22 <| c_rt <| WE.then_r ?_; rotate_left)
    exact WE.ret1 () rfl rfl rfl trivial Mem.drop
  · rw [if_neg hs1] at hP
    (refine c_sq fun k16 h16 => c_rg <| r_as rfl rfl <| r_nx h16 <| c_sq fun k18 h18 => c_sq fun k20 h20 => c_rg <| r_mv rfl rfl <| r_lS Tryz.underlying9 rfl rfl <| r_eqF rfl rfl rfl (by omega) <| r_nx h20 <| c_cF rfl <| c_sk <| WE.then_n h18 <| c_sq fun k22 h22 => ?_)
    refine WC.heldL [] rfl (by kernel_rfl) ?_
    refine WG.take (k := 0) (d := 11) rfl (by kernel_rfl) (Qv.move rfl) rfl rfl rfl Mem.keep ?_
    refine WG.take (k := 1) (d := 12) rfl (by kernel_rfl) (Qv.index_str (v := a) Tryz.underlying9 rfl rfl (by omega) (by rw [← Array.getElem?_toList]; exact hb)) rfl rfl rfl Mem.keep ?_
    refine WG.take (k := 2) (d := 13) rfl (by kernel_rfl) (Qv.convert rfl (cv_int (k' := .i32) rfl Tryz.underlying21 (w32 (by omega)))) rfl rfl rfl Mem.keep ?_
    refine WG.take (k := 4) (d := 15) rfl (by kernel_rfl) (Qv.move rfl) rfl rfl rfl Mem.keep ?_
    refine WG.take (k := 5) (d := 16) rfl (by kernel_rfl) (Qv.len_string Tryz.underlying9 rfl) rfl rfl rfl Mem.keep ?_
    refine WG.take (k := 6) (d := 17) rfl (by kernel_rfl) (Qv.sub (r := (s.size : Int) - 2) rfl rfl (wsub64 (by omega))) rfl rfl rfl Mem.keep ?_
    refine WG.ev (k := 3) (d := 14) rfl (by kernel_rfl) (Ev.buildSlice (e := 21) (vs := [(0, .int .i32 192), (1, .int .i32 224), (2, .int .i32 240)]) (cs := [.int .i32 192, .int .i32 224, .int .i32 240]) rfl (fun w => by kernel_rfl)) rfl rfl rfl (fun _ => Mem.drop) (fun b _ => ?_)
    refine WG.qv (k := 7) (d := 18) rfl (by kernel_rfl) (Qv.indexAddr Tryz.underlying47 (by kernel_rfl) rfl rfl (fun _ => rfl) (by omega) (by omega)) rfl rfl rfl Mem.drop ?_
    have hj : ((s.size : Int) - 2).toNat = s.size - 2 := by omega
    rw [hj]
    refine WG.qv (k := 8) (d := 19) rfl (by kernel_rfl) (Qv.load_rd (v := .int .i32 (baseP s.size)) (xs := [.int .i32 192, .int .i32 224, .int .i32 240]) Tryz.underlying21 rfl rfl (Rd.blk 0 rfl) (by
      rcases (by omega : s.size = 2 ∨ s.size = 3 ∨ s.size = 4) with h | h | h <;> rw [h] <;> rfl)) rfl rfl rfl Mem.drop ?_
    have hbp : 192 ≤ baseP s.size ∧ baseP s.size ≤ 240 := by unfold baseP; (repeat' split) <;> omega
    refine WG.qv (k := 9) (d := 20) rfl (by kernel_rfl) (Qv.sub (r := (a.toNat : Int) - baseP s.size) rfl rfl (wsub32 (by omega))) rfl rfl rfl Mem.drop ?_
    refine WG.qv (k := 10) (d := 3) rfl (by kernel_rfl) (Qv.assign rfl) rfl rfl rfl Mem.drop ?_
    refine WG.nil (by kernel_rfl) ?_
    (refine WE.then_n h22 <| c_sq fun k28 h28 => c_sq fun k30 h30 => c_rg <| r_as rfl rfl <| r_nx h30 <| c_bl ?_; rotate_left)
    refine WC.loop (α := Nat × Int) (fun x => [(0, .string s), (4, .int .i64 (x.1 : Nat)), (3, .int .i32 x.2)]) (fun _ => []) (fun x => 1 ≤ x.1 ∧ x.1 ≤ s.size ∧ uvalG s.data.toList (s.size - x.1) x.1 x.2 = V ∧ -uvB x.1 ≤ x.2 ∧ x.2 ≤ uvB x.1) (fun x => s.size - x.1) (1, (a.toNat : Int) - baseP s.size) ⟨Nat.le_refl _, h1, hP.symm, by show -255 ≤ (a.toNat : Int) - baseP s.size; omega, by show (a.toNat : Int) - baseP s.size ≤ 255; omega⟩ ⟨rfl, rfl, rfl, trivial⟩ Mem.drop ?_
    rintro ⟨i, c⟩ ⟨g1, g2, g3, g4, g5⟩
    dsimp only at g1 g2 g3 g4 g5 ⊢
    by_cases hlt : i < s.size
    · have hbi := get_at s i hlt
      have hg : s.data.toList.getD i 0 = s.get! i := by rw [List.getD_eq_getElem?_getD, hbi]; rfl
      rw [show s.size - i = (s.size - (i + 1)) + 1 by omega, uvalG, hg] at g3
      generalize s.get! i = x at hbi g3
      have hx := x.toNat_lt
      have hb1 : -uvB (i + 1) ≤ 64 * c + (x.toNat : Int) - 128 ∧ 64 * c + (x.toNat : Int) - 128 ≤ uvB (i + 1) ∧ -1052800 ≤ c ∧ c ≤ 1052800 := by
        rcases (by omega : i = 1 ∨ i = 2 ∨ i = 3) with h | h | h <;> subst h <;> simp [uvB] at g4 g5 ⊢ <;> omega
      (refine c_sq fun k50 h50 => c_sq fun k52 h52 => c_rg <| r_mv rfl rfl <| r_mv rfl rfl <| r_lS Tryz.underlying9 rfl rfl <| r_ltT rfl rfl rfl (by omega) <| r_nx h52 <| c_cT rfl <| c_sk <| WE.then_n h50 <| c_sq fun k54 h54 => c_bl <| c_rg <| r_mv rfl rfl ?_; rotate_left)
      refine r_mu (r := 64 * c) rfl rfl rfl (w32 (by omega)) ?_
      (refine r_mv rfl rfl <| r_mv rfl rfl ?_; rotate_left)
      refine r_iS (v := x) Tryz.underlying9 rfl rfl rfl (by omega) (by rw [← Array.getElem?_toList]; exact hbi) ?_
      (refine r_cv rfl (cv_int (k' := .i32) rfl Tryz.underlying21 (w32 (by omega))) rfl <| r_ad rfl rfl rfl (wadd32 (by omega)) <| r_su rfl rfl rfl (wsub32 (by omega)) <| r_as rfl rfl <| r_nl <| WE.blk_n <| WE.then_n h54 <| c_rg <| r_mv rfl rfl <| r_ad rfl rfl rfl (wadd64 (by omega)) <| r_as rfl rfl <| r_nl ?_; rotate_left)
      exact WE.back (i + 1, 64 * c + (x.toNat : Int) - 128) ⟨by dsimp only; omega, by dsimp only; omega, g3, hb1.1, hb1.2.1⟩ (by dsimp only; omega) ⟨rfl, rfl, rfl, trivial⟩ Mem.keep
    · rw [show s.size - i = 0 by omega, uvalG] at g3
      subst g3
      (refine c_sq fun k49 h49 => c_sq fun k51 h51 => c_rg <| r_mv rfl rfl <| r_mv rfl rfl <| r_lS Tryz.underlying9 rfl rfl <| r_ltF rfl rfl rfl (by omega) <| r_nx h51 <| c_cF rfl <| c_ex <| WE.then_x <| WE.then_x <| WE.blk_x <| WE.then_n h28 <| c_sq fun k53 h53 => c_rg <| r_mv rfl rfl <| r_as rfl rfl <| r_nx h53 <| c_rt ?_; rotate_left)
      exact WE.ret1 () rfl rfl rfl trivial Mem.drop
set_option maxRecDepth 100000 in
/-- THE DOCUMENT READS BYTES AS THE PROGRAM DOES. -/
theorem udec_spec (s : ByteArray) (hs : s.size ≤ 1000000) (w0 : World) (m0 : List Res) :
    Ct (α := Option Addr × Nat) Tryz.prog 23 [.string s] w0 [] m0 (fun _ => True) (fun p => SlR p (decUP s)) (fun p => [OwnR p (decUP s)]) := by
  refine Ct.of Tryz.func23 rfl (by kernel_rfl) rfl ?_
  (refine c_sq fun k5 h5 => c_rg <| r_as rfl rfl <| r_nx h5 <| c_sq fun k7 h7 => c_rg <| r_as rfl rfl <| r_nx h7 <| c_sq fun k9 h9 => c_rg <| r_as rfl rfl <| r_nx h9 <| c_sq fun k11 h11 => c_bl ?_; rotate_left)
  refine WC.loop (α := Nat × Nat × List Int × (Option Addr × Nat)) (fun x => [(0, .string s), (4, .int .i64 (x.2.1 : Nat)), (3, SlR x.2.2.2 x.2.2.1)]) (fun x => [OwnR x.2.2.2 x.2.2.1]) (fun x => x.2.1 ≤ s.size ∧ x.2.2.1 ++ decU x.1 (s.extract x.2.1 s.size) = decUP s ∧ s.size - x.2.1 < x.1 ∧ x.2.2.1.length ≤ x.2.1) (fun x => s.size - x.2.1) (s.size + 1, 0, [], (none, 0)) ⟨Nat.zero_le _, by
    rw [show s.extract 0 s.size = s by rw [ext_drop]; exact strOf_list s]; rfl, by dsimp only; omega, by simp⟩ ⟨rfl, rfl, rfl, trivial⟩ (Mem.nilOwn _ _) ?_
  rintro ⟨f, i, acc, p⟩ ⟨hi, e, h1, h2⟩
  dsimp only at hi e h1 h2 ⊢
  by_cases hlt : i < s.size
  · have hd : (s.extract i s.size).data.toList = s.data.toList.drop i := by rw [ext_drop, list_strOf]
    have hz : (s.extract i s.size).size = s.size - i := by rw [ByteArray.size_extract]; omega
    have hn := nextP_bg (s.extract i s.size) (by omega)
    have hin : bgP (s.data.toList.drop i) ≤ (s.data.toList.drop i).length := by
      unfold bgP
      split
      · omega
      · exact bgG_in _ _ _ _ _ (by rw [List.length_drop, size_list]; omega)
    rw [hd] at hn
    rw [List.length_drop, size_list] at hin
    have hb := get_at s i hlt
    have h0 : (s.data.toList.drop i).getD 0 0 = s.get! i := by rw [List.getD_eq_getElem?_getD, List.getElem?_drop, Nat.add_zero, hb]; rfl
    rw [h0] at hn
    obtain ⟨f', rfl⟩ : ∃ f', f = f' + 1 := ⟨f - 1, by omega⟩
    rw [decU, if_neg (by omega), hn] at e
    have hex : ∀ w, (s.extract i s.size).extract w (s.extract i s.size).size = s.extract (i + w) s.size := fun w => by
      apply ba_ext
      rw [ext_drop, list_strOf, hd, List.drop_drop, ext_drop, list_strOf]
    rw [hex] at e
    have hval : ∀ k, 0 < k → k ≤ s.size - i → uvalP (s.extract i (i + k)).data.toList k = uvalP (s.data.toList.drop i) k := fun k hk hk2 => by
      have hg : ∀ j, j < k → (s.extract i (i + k)).data.toList.getD j 0 = (s.data.toList.drop i).getD j 0 := fun j hj => by
        rw [ByteArray.data_extract, Array.toList_extract, List.extract_eq_take_drop, List.getD_eq_getElem?_getD, List.getD_eq_getElem?_getD, List.getElem?_take, if_pos (by omega)]
      unfold uvalP
      rw [hg 0 hk, uvalG_congr _ (s.data.toList.drop i) (k - 1) 1 _ (fun j h1 h2 => hg j (by omega))]
    have h4 : bgP (s.data.toList.drop i) ≤ 4 := by
      have h5 : ∀ c, manyP c ≤ 4 := fun c => by unfold manyP; (repeat' split) <;> omega
      unfold bgP
      split
      · omega
      · exact Nat.le_trans (bgG_le _ _ _ _ _ (by omega)).2 (h5 _)
    have hbs := fun mm => ubegin_spec s i hlt (by omega) w0 mm
    generalize bgP (s.data.toList.drop i) = R at hn hin e h4 hbs
    generalize s.get! i = a at hb hn e
    (refine c_sq fun k49 h49 => c_sq fun k51 h51 => c_rg <| r_mv rfl rfl <| r_mv rfl rfl <| r_lS Tryz.underlying9 rfl rfl <| r_ltT rfl rfl rfl (by omega) <| r_nx h51 <| c_cT rfl <| c_sk <| WE.then_n h49 <| c_bl <| c_sq fun k53 h53 => c_rg <| r_mv rfl rfl <| r_mv rfl rfl ?_; rotate_left)
    refine WX.pure rfl rfl (hbs _) rfl rfl ?_
    (refine r_as rfl rfl <| r_nx h53 <| c_sq fun k55 h55 => c_sq fun k57 h57 => c_rg <| r_mv rfl rfl ?_; rotate_left)
    by_cases hR0 : 0 < R
    · by_cases hR1 : R = manyP a.toNat
      · rw [if_pos ⟨hR0, hR1⟩, show max R 1 = R by omega] at e
        dsimp only at e
        (refine r_gtT rfl rfl rfl (by omega) <| r_mv rfl rfl <| r_mv rfl rfl <| r_mv rfl rfl <| r_mv rfl rfl ?_; rotate_left)
        refine r_iS (v := a) Tryz.underlying9 rfl rfl rfl (by omega) (by rw [← Array.getElem?_toList]; exact hb) ?_
        refine WX.pure rfl rfl (umany_spec a _ _) rfl rfl ?_
        rw [← hR1]
        (refine r_eqT rfl rfl rfl (by omega) <| r_pT rfl rfl rfl <| r_nx h57 <| c_cT rfl <| c_rg <| r_mv rfl rfl <| r_mv rfl rfl <| r_mv rfl rfl <| r_mv rfl rfl <| r_mv rfl rfl <| r_ad rfl rfl rfl (wadd64 (by omega)) ?_; rotate_left)
        refine r_sS Tryz.underlying9 rfl rfl rfl (by omega) (by omega) (by omega) rfl ?_
        rw [show s.extract ((i : Int)).toNat ((i : Int) + (R : Int)).toNat = s.extract i (i + R) by congr 1]
        have hvz : (s.extract i (i + R)).size = R := by rw [ByteArray.size_extract]; omega
        refine WX.pure rfl rfl (uvalue_spec (s.extract i (i + R)) (by omega) (by omega) _ _) rfl rfl ?_
        rw [hvz, hval R hR0 hin]
        generalize uvalP (s.data.toList.drop i) R = V at e ⊢
        (refine r_bo Tryz.underlying47 rfl (fun _ => by kernel_rfl) rfl rfl rfl (fun _ => ?_); rotate_left)
        refine r_am (xs := acc) (ys := [V]) 1 (z := .int .i32 0) (by_ := 4) (f := (.int .i32 ·)) Tryz.underlying47 (by kernel_rfl) rfl rfl rfl rfl (Rd.own 0 rfl) rfl (fun _ => rfl) (by omega) rfl (fun p2 _ => ?_)
        (refine r_as rfl rfl <| r_nx h55 <| c_rg <| r_mv rfl rfl <| r_mv rfl rfl <| r_mx rfl rfl rfl <| r_ad rfl rfl rfl (wadd64 (by omega)) <| r_as rfl rfl <| r_nl <| WE.blk_n ?_; rotate_left)
        exact WE.back (f', i + R, acc ++ [V], p2) ⟨by dsimp only; omega, by dsimp only; rw [List.append_assoc]; exact e, by dsimp only; omega, by rw [List.length_append]; dsimp only [List.length]; omega⟩ (by dsimp only; omega) ⟨rfl, by rw [show ((i + R : Nat) : Int) = (i : Int) + max (R : Int) 1 by omega]; rfl, rfl, trivial⟩ (Mem.pick [1] (by decide) rfl)
      · rw [if_neg (fun h => hR1 h.2)] at e
        dsimp only at e
        have hm4 : manyP a.toNat ≤ 4 := by unfold manyP; (repeat' split) <;> omega
        (refine r_gtT rfl rfl rfl (by omega) <| r_mv rfl rfl <| r_mv rfl rfl <| r_mv rfl rfl <| r_mv rfl rfl ?_; rotate_left)
        refine r_iS (v := a) Tryz.underlying9 rfl rfl rfl (by omega) (by rw [← Array.getElem?_toList]; exact hb) ?_
        refine WX.pure rfl rfl (umany_spec a _ _) rfl rfl ?_
        generalize manyP a.toNat = n at hR1 hm4 ⊢
        (refine r_eqF rfl rfl rfl (by omega) <| r_pT rfl rfl rfl <| r_nx h57 <| c_cF rfl <| c_rg <| r_mv rfl rfl <| r_bo Tryz.underlying47 rfl (fun _ => by kernel_rfl) rfl rfl rfl (fun _ => ?_); rotate_left)
        refine r_am (xs := acc) (ys := [65533]) 1 (z := .int .i32 0) (by_ := 4) (f := (.int .i32 ·)) Tryz.underlying47 (by kernel_rfl) rfl rfl rfl rfl (Rd.own 0 rfl) rfl (fun _ => rfl) (by omega) rfl (fun p2 _ => ?_)
        (refine r_as rfl rfl <| r_nx h55 <| c_rg <| r_mv rfl rfl <| r_mv rfl rfl <| r_mx rfl rfl rfl <| r_ad rfl rfl rfl (wadd64 (by omega)) <| r_as rfl rfl <| r_nl <| WE.blk_n ?_; rotate_left)
        exact WE.back (f', i + max R 1, acc ++ [65533], p2) ⟨by dsimp only; omega, by dsimp only; rw [List.append_assoc]; exact e, by dsimp only; omega, by rw [List.length_append]; dsimp only [List.length]; omega⟩ (by dsimp only; omega) ⟨rfl, by rw [show ((i + max R 1 : Nat) : Int) = (i : Int) + max (R : Int) 1 by omega]; rfl, rfl, trivial⟩ (Mem.pick [1] (by decide) rfl)
    · rw [if_neg (fun h => hR0 h.1)] at e
      dsimp only at e
      (refine r_gtF rfl rfl rfl (by omega) <| r_mv rfl rfl <| r_sk rfl rfl <| r_sk rfl rfl <| r_sk rfl rfl <| r_sk rfl rfl <| r_sk rfl rfl <| r_sk rfl rfl <| r_pF rfl rfl rfl <| r_nx h57 <| c_cF rfl <| c_rg <| r_mv rfl rfl <| r_bo Tryz.underlying47 rfl (fun _ => by kernel_rfl) rfl rfl rfl (fun _ => ?_); rotate_left)
      refine r_am (xs := acc) (ys := [65533]) 1 (z := .int .i32 0) (by_ := 4) (f := (.int .i32 ·)) Tryz.underlying47 (by kernel_rfl) rfl rfl rfl rfl (Rd.own 0 rfl) rfl (fun _ => rfl) (by omega) rfl (fun p2 _ => ?_)
      (refine r_as rfl rfl <| r_nx h55 <| c_rg <| r_mv rfl rfl <| r_mv rfl rfl <| r_mx rfl rfl rfl <| r_ad rfl rfl rfl (wadd64 (by omega)) <| r_as rfl rfl <| r_nl <| WE.blk_n ?_; rotate_left)
      exact WE.back (f', i + max R 1, acc ++ [65533], p2) ⟨by dsimp only; omega, by dsimp only; rw [List.append_assoc]; exact e, by dsimp only; omega, by rw [List.length_append]; dsimp only [List.length]; omega⟩ (by dsimp only; omega) ⟨rfl, by rw [show ((i + max R 1 : Nat) : Int) = (i : Int) + max (R : Int) 1 by omega]; rfl, rfl, trivial⟩ (Mem.pick [1] (by decide) rfl)
  · have h3 : (s.extract i s.size).size = 0 := by rw [ByteArray.size_extract]; omega
    have e2 : acc = decUP s := by
      rw [← e]
      cases f with
      | zero => simp [decU]
      | succ f => rw [decU, if_pos h3]; simp
    subst e2
    (refine c_sq fun k25 h25 => c_sq fun k27 h27 => c_rg <| r_mv rfl rfl <| r_mv rfl rfl <| r_lS Tryz.underlying9 rfl rfl <| r_ltF rfl rfl rfl (by omega) <| r_nx h27 <| c_cF rfl <| c_ex <| WE.then_x <| WE.then_x <| WE.blk_x <| WE.then_n h11 <| c_sq fun k29 h29 => c_rg <| r_mv rfl rfl <| r_as rfl rfl <| r_nx h29 <| c_rt ?_; rotate_left)
    exact WE.ret1 p rfl rfl rfl trivial Mem.keep
end Go.Proofs.YtkggplnigjlegaaGreatDoor

/- The document's small functions of layers 4 and 6: thresholds, the bias, digits, hyphens, plain ones, marks, the least one: the walks. -/
set_option linter.unusedVariables false
namespace Go.Proofs.YtkggplnigjlegaaGreatDoor
open Go.RowKit Go.Gp

set_option maxRecDepth 100000 in
theorem rthr_spec (k bias : Int) (hk : 0 ≤ k ∧ k ≤ 1000000000000 ∧ 0 ≤ bias ∧ bias ≤ 1000000000000) (w0 : World) (m0 : List Res) : PureC Tryz.prog 125 [.int .i64 k, .int .i64 bias] w0 m0 (.int .i64 (thrP k bias)) := by
  refine Ct.of Tryz.func125 rfl (by kernel_rfl) rfl ?_
  by_cases h1 : k ≤ bias
  · rw [show thrP k bias = 1 by unfold thrP; omega]
    (refine c_sq fun k7 h7 => c_rg <| r_as rfl rfl <| r_nx h7 <| c_sq fun k9 h9 => c_sq fun k11 h11 => c_rg <| r_mv rfl rfl <| r_mv rfl rfl <| r_leT rfl rfl rfl (by omega) <| r_nx h11 <| c_cT rfl <| c_sq fun k13 h13 => c_rg <| r_as rfl rfl <| r_nx h13 <| c_rt <| WE.then_r ?_; rotate_left)
    exact WE.ret1 () rfl rfl rfl trivial Mem.drop
  · by_cases h2 : k ≥ bias + 26
    · rw [show thrP k bias = 26 by unfold thrP; omega]
      (refine c_sq fun k8 h8 => c_rg <| r_as rfl rfl <| r_nx h8 <| c_sq fun k10 h10 => c_sq fun k12 h12 => c_rg <| r_mv rfl rfl <| r_mv rfl rfl <| r_leF rfl rfl rfl (by omega) <| r_nx h12 <| c_cF rfl <| c_sk <| WE.then_n h10 <| c_sq fun k14 h14 => c_sq fun k16 h16 => c_rg <| r_mv rfl rfl <| r_mv rfl rfl <| r_ad rfl rfl rfl (wadd64 (by omega)) <| r_geT rfl rfl rfl (by omega) <| r_nx h16 <| c_cT rfl <| c_sq fun k18 h18 => c_rg <| r_as rfl rfl <| r_nx h18 <| c_rt <| WE.then_r ?_; rotate_left)
      exact WE.ret1 () rfl rfl rfl trivial Mem.drop
    · rw [show thrP k bias = k - bias by unfold thrP; omega]
      (refine c_sq fun k8 h8 => c_rg <| r_as rfl rfl <| r_nx h8 <| c_sq fun k10 h10 => c_sq fun k12 h12 => c_rg <| r_mv rfl rfl <| r_mv rfl rfl <| r_leF rfl rfl rfl (by omega) <| r_nx h12 <| c_cF rfl <| c_sk <| WE.then_n h10 <| c_sq fun k14 h14 => c_sq fun k16 h16 => c_rg <| r_mv rfl rfl <| r_mv rfl rfl <| r_ad rfl rfl rfl (wadd64 (by omega)) <| r_geF rfl rfl rfl (by omega) <| r_nx h16 <| c_cF rfl <| c_sk <| WE.then_n h14 <| c_sq fun k18 h18 => c_rg <| r_mv rfl rfl <| r_mv rfl rfl <| r_su rfl rfl rfl (wsub64 (by omega)) <| r_as rfl rfl <| r_nx h18 <| c_rt ?_; rotate_left)
      exact WE.ret1 () rfl rfl rfl trivial Mem.drop
set_option maxRecDepth 100000 in
theorem radapt_spec (delta many : Int) (once : Bool) (h : 0 ≤ delta ∧ delta ≤ 4000000000000000000 ∧ 1 ≤ many) (w0 : World) (m0 : List Res) : PureC Tryz.prog 106 [.int .i64 delta, .int .i64 many, .bool once] w0 m0 (.int .i64 (adaptP delta many once)) := by
  have hf : (456 : Int) * 35 ^ 13 = 53932359308583984375000 := by decide +kernel
  refine Ct.of Tryz.func106 rfl (by kernel_rfl) rfl ?_
  (refine c_sq fun k8 h8 => c_rg <| r_as rfl rfl <| r_nx h8 <| c_sq fun k10 h10 => c_rg <| r_mv rfl rfl <| r_qu rfl rfl rfl (by omega) (wquo64 (by omega)) <| r_as rfl rfl <| r_nx h10 ?_; rotate_left)
  refine WC.cut (α := Unit) (fun _ => [(1, .int .i64 many), (7, .int .i64 (if once then delta / 700 else delta / 2))]) (fun _ => []) (fun _ => True) ?_ ?_
  · cases once
    · (refine c_sq fun k13 h13 => c_rg <| r_mv rfl rfl <| r_nx h13 <| c_cF rfl <| c_sk ?_; rotate_left)
      exact WE.met () trivial ⟨rfl, rfl, trivial⟩ Mem.keep
    · (refine c_sq fun k13 h13 => c_rg <| r_mv rfl rfl <| r_nx h13 <| c_cT rfl <| c_rg <| r_mv rfl rfl <| r_qu rfl rfl rfl (by omega) (wquo64 (by omega)) <| r_as rfl rfl <| r_nl ?_; rotate_left)
      exact WE.met () trivial ⟨rfl, rfl, trivial⟩ Mem.keep
  · rintro _ _
    have hd : 0 ≤ (if once then delta / 700 else delta / 2) ∧ (if once then delta / 700 else delta / 2) ≤ 2000000000000000000 := by split <;> omega
    have eP : adaptP delta many once = (adL 13 ((if once then delta / 700 else delta / 2) + (if once then delta / 700 else delta / 2) / many) 0).2 + 36 * (adL 13 ((if once then delta / 700 else delta / 2) + (if once then delta / 700 else delta / 2) / many) 0).1 / ((adL 13 ((if once then delta / 700 else delta / 2) + (if once then delta / 700 else delta / 2) / many) 0).1 + 38) := rfl
    generalize (if once then delta / 700 else delta / 2) = d0 at hd eP
    have k1 : 0 ≤ d0 / many := Int.ediv_nonneg hd.1 (by omega)
    have k2 : d0 / many ≤ d0 := Int.ediv_le_self _ hd.1
    (refine c_sq fun k19 h19 => c_rg <| r_mv rfl rfl <| r_mv rfl rfl <| r_mv rfl rfl <| r_qu rfl rfl rfl (by omega) (wquo64 (by omega)) <| r_ad rfl rfl rfl (wadd64 (by omega)) <| r_as rfl rfl <| r_nx h19 <| c_sq fun k21 h21 => c_rg <| r_as rfl rfl <| r_nx h21 <| c_sq fun k23 h23 => c_bl ?_; rotate_left)
    refine WC.loop (α := Nat × Int × Int) (fun x => [(7, .int .i64 x.2.1), (8, .int .i64 x.2.2)]) (fun _ => [])
      (fun x => adL x.1 x.2.1 x.2.2 = adL 13 (d0 + d0 / many) 0 ∧ (0 ≤ x.2.1 ∧ x.2.1 ≤ 4000000000000000000) ∧ x.2.1 < 456 * 35 ^ x.1 ∧ 0 ≤ x.2.2 ∧ x.2.2 + 36 * x.1 ≤ 468) (fun x => x.1) (13, d0 + d0 / many, 0) ⟨rfl, by dsimp only; omega, by dsimp only; omega, by dsimp only; omega, by dsimp only; omega⟩ ⟨rfl, rfl, trivial⟩ Mem.keep ?_
    rintro ⟨f, d, k⟩ ⟨e, h1, h2, h3, h4⟩
    dsimp only at e h1 h2 h3 h4 ⊢
    by_cases hlt : 455 < d
    · cases f with
      | zero => simp only [Int.pow_zero, Int.mul_one] at h2; omega
      | succ f =>
        have h5 : d / 35 < 456 * 35 ^ f := by
          rw [Int.pow_succ] at h2
          exact Int.ediv_lt_of_lt_mul (by omega) (by rw [Int.mul_assoc]; exact h2)
        rw [adL, if_pos hlt] at e
        (refine c_sq fun k41 h41 => c_sq fun k43 h43 => c_rg <| r_mv rfl rfl <| r_gtT rfl rfl rfl (by omega) <| r_nx h43 <| c_cT rfl <| c_sk <| WE.then_n h41 <| c_bl <| c_sq fun k45 h45 => c_rg <| r_mv rfl rfl <| r_qu rfl rfl rfl (by omega) (wquo64 (by omega)) <| r_as rfl rfl <| r_nx h45 <| c_rg <| r_mv rfl rfl <| r_ad rfl rfl rfl (wadd64 (by omega)) <| r_as rfl rfl <| r_nl <| WE.blk_n ?_; rotate_left)
        exact WE.back (f, d / 35, k + 36) ⟨e, by dsimp only; omega, h5, by dsimp only; omega, by dsimp only; omega⟩ (by simp) ⟨rfl, rfl, trivial⟩ Mem.keep
    · have e' : adL f d k = (d, k) := by cases f with | zero => rfl | succ f => rw [adL, if_neg hlt]
      have q1 : 0 ≤ 36 * d / (d + 38) := Int.ediv_nonneg (by omega) (by omega)
      have q2 : 36 * d / (d + 38) ≤ 36 := Int.ediv_le_of_le_mul (by omega) (by omega)
      (refine c_sq fun k37 h37 => c_sq fun k39 h39 => c_rg <| r_mv rfl rfl <| r_gtF rfl rfl rfl (by omega) <| r_nx h39 <| c_cF rfl <| c_ex <| WE.then_x <| WE.then_x <| WE.blk_x <| WE.then_n h23 <| c_sq fun k41 h41 => c_rg <| r_mv rfl rfl <| r_mv rfl rfl <| r_mu rfl rfl rfl (wmul64 (by omega)) <| r_mv rfl rfl <| r_ad rfl rfl rfl (wadd64 (by omega)) <| r_qu rfl rfl rfl (by omega) (wquo64 (by omega)) <| r_ad rfl rfl rfl (wadd64 (by omega)) <| r_as rfl rfl <| r_nx h41 <| c_rt ?_; rotate_left)
      exact WE.ret1 () rfl rfl (by rw [eP, ← e, e']; rfl) trivial Mem.drop
set_option maxRecDepth 100000 in
theorem dig_val {n : Int} (h : 0 ≤ n) (h2 : n < 36) : ((dig n).toNat : Int) = if n < 26 then 97 + n else 48 + n - 26 := by
  have key : ∀ i : Fin 36, ((dig (i.1 : Int)).toNat : Int) = if (i.1 : Int) < 26 then 97 + (i.1 : Int) else 48 + (i.1 : Int) - 26 := by decide +kernel
  have := key ⟨n.toNat, by omega⟩
  simp only at this
  rwa [show ((n.toNat : Nat) : Int) = n by omega] at this
set_option maxRecDepth 100000 in
theorem rdigit_spec (n : Int) (h : 0 ≤ n) (h2 : n < 36) (w0 : World) (m0 : List Res) : PureC Tryz.prog 126 [.int .i64 n] w0 m0 (.int .u8 (dig n).toNat) := by
  have hv := dig_val h h2
  refine Ct.of Tryz.func126 rfl (by kernel_rfl) rfl ?_
  by_cases h3 : n < 26
  · rw [if_pos h3] at hv
    rw [hv]
    (refine c_sq fun k9 h9 => c_rg <| r_as rfl rfl <| r_nx h9 <| c_sq fun k11 h11 => c_sq fun k13 h13 => c_rg <| r_mv rfl rfl <| r_ltT rfl rfl rfl (by omega) <| r_nx h13 <| c_cT rfl <| c_sq fun k15 h15 => c_rg <| r_mv rfl rfl <| r_ad rfl rfl rfl (wadd64 (by omega)) <| r_cv rfl (cv_int (k' := .u8) rfl Tryz.underlying5 (w8 (by omega))) rfl <| r_as rfl rfl <| r_nx h15 <| c_rt <| WE.then_r ?_; rotate_left)
    exact WE.ret1 () rfl rfl rfl trivial Mem.drop
  · rw [if_neg h3] at hv
    rw [hv]
    (refine c_sq fun k9 h9 => c_rg <| r_as rfl rfl <| r_nx h9 <| c_sq fun k11 h11 => c_sq fun k13 h13 => c_rg <| r_mv rfl rfl <| r_ltF rfl rfl rfl (by omega) <| r_nx h13 <| c_cF rfl <| c_sk <| WE.then_n h11 <| c_sq fun k15 h15 => c_rg <| r_mv rfl rfl <| r_ad rfl rfl rfl (wadd64 (by omega)) <| r_su rfl rfl rfl (wsub64 (by omega)) <| r_cv rfl (cv_int (k' := .u8) rfl Tryz.underlying5 (w8 (by omega))) rfl <| r_as rfl rfl <| r_nx h15 <| c_rt ?_; rotate_left)
    exact WE.ret1 () rfl rfl rfl trivial Mem.drop
set_option maxRecDepth 100000 in
theorem val_law (c : UInt8) : valD (lowB c) = if 97 ≤ c.toNat ∧ c.toNat ≤ 122 then (c.toNat : Int) - 97 else if 65 ≤ c.toNat ∧ c.toNat ≤ 90 then (c.toNat : Int) - 65 else if 48 ≤ c.toNat ∧ c.toNat ≤ 57 then (c.toNat : Int) - 48 + 26 else -1 := by
  have key : ∀ i : Fin 256, valD (lowB (UInt8.ofNat i.1)) = if 97 ≤ (UInt8.ofNat i.1).toNat ∧ (UInt8.ofNat i.1).toNat ≤ 122 then ((UInt8.ofNat i.1).toNat : Int) - 97 else if 65 ≤ (UInt8.ofNat i.1).toNat ∧ (UInt8.ofNat i.1).toNat ≤ 90 then ((UInt8.ofNat i.1).toNat : Int) - 65 else if 48 ≤ (UInt8.ofNat i.1).toNat ∧ (UInt8.ofNat i.1).toNat ≤ 57 then ((UInt8.ofNat i.1).toNat : Int) - 48 + 26 else -1 := by decide +kernel
  have := key ⟨c.toNat, c.toNat_lt⟩
  simpa using this
set_option maxRecDepth 100000 in
theorem rvalue_spec (c : UInt8) (w0 : World) (m0 : List Res) : PureC Tryz.prog 131 [.int .u8 c.toNat] w0 m0 (.int .i64 (valD (lowB c))) := by
  have hc := c.toNat_lt
  refine Ct.of Tryz.func131 rfl (by kernel_rfl) rfl ?_
  (refine c_sq fun k5 h5 => c_rg <| r_as rfl rfl <| r_nx h5 <| c_sq fun k7 h7 => c_sq fun k9 h9 => c_rg <| r_mv rfl rfl <| r_geC rfl rfl rfl (fun _ => ?_) (fun _ => ?_); refine r_mv rfl rfl <| r_mv rfl rfl <| r_leC rfl rfl rfl (fun _ => ?_) (fun _ => ?_); refine r_pT rfl rfl rfl <| r_nx h9 <| c_cT rfl <| c_sq fun k13 h13 => c_rg <| r_mv rfl rfl <| r_cv rfl (cv_int (k' := .i64) rfl Tryz.underlying3 (w64 (by omega))) rfl <| r_su rfl rfl rfl (wsub64 (by omega)) <| r_as rfl rfl <| r_nx h13 <| c_rt <| WE.then_r ?_; rotate_left; refine r_pT rfl rfl rfl <| r_nx h9 <| c_cF rfl <| c_sk <| WE.then_n h7 <| c_sq fun k13 h13 => c_sq fun k15 h15 => c_rg <| r_mv rfl rfl <| r_geT rfl rfl rfl (by omega) <| r_mv rfl rfl <| r_mv rfl rfl <| r_leF rfl rfl rfl (by omega) <| r_pT rfl rfl rfl <| r_nx h15 <| c_cF rfl <| c_sk <| WE.then_n h13 <| c_sq fun k17 h17 => c_sq fun k19 h19 => c_rg <| r_mv rfl rfl <| r_geT rfl rfl rfl (by omega) <| r_mv rfl rfl <| r_mv rfl rfl <| r_leF rfl rfl rfl (by omega) <| r_pT rfl rfl rfl <| r_nx h19 <| c_cF rfl <| c_sk <| WE.then_n h17 <| c_sq fun k21 h21 => c_rg <| r_as rfl rfl <| r_nx h21 <| c_rt ?_; rotate_left; refine r_mv rfl rfl <| r_sk rfl rfl <| r_sk rfl rfl <| r_pF rfl rfl rfl <| r_nx h9 <| c_cF rfl <| c_sk <| WE.then_n h7 <| c_sq fun k12 h12 => c_sq fun k14 h14 => c_rg <| r_mv rfl rfl <| r_geC rfl rfl rfl (fun _ => ?_) (fun _ => ?_); refine r_mv rfl rfl <| r_mv rfl rfl <| r_leC rfl rfl rfl (fun _ => ?_) (fun _ => ?_); refine r_pT rfl rfl rfl <| r_nx h14 <| c_cT rfl <| c_sq fun k18 h18 => c_rg <| r_mv rfl rfl <| r_cv rfl (cv_int (k' := .i64) rfl Tryz.underlying3 (w64 (by omega))) rfl <| r_su rfl rfl rfl (wsub64 (by omega)) <| r_as rfl rfl <| r_nx h18 <| c_rt <| WE.then_r ?_; rotate_left; refine r_pT rfl rfl rfl <| r_nx h14 <| c_cF rfl <| c_sk <| WE.then_n h12 <| c_sq fun k18 h18 => c_sq fun k20 h20 => c_rg <| r_mv rfl rfl <| r_geT rfl rfl rfl (by omega) <| r_mv rfl rfl <| r_mv rfl rfl <| r_leF rfl rfl rfl (by omega) <| r_pT rfl rfl rfl <| r_nx h20 <| c_cF rfl <| c_sk <| WE.then_n h18 <| c_sq fun k22 h22 => c_rg <| r_as rfl rfl <| r_nx h22 <| c_rt ?_; rotate_left; refine r_mv rfl rfl <| r_sk rfl rfl <| r_sk rfl rfl <| r_pF rfl rfl rfl <| r_nx h14 <| c_cF rfl <| c_sk <| WE.then_n h12 <| c_sq fun k17 h17 => c_sq fun k19 h19 => c_rg <| r_mv rfl rfl <| r_geC rfl rfl rfl (fun _ => ?_) (fun _ => ?_); refine r_mv rfl rfl <| r_mv rfl rfl <| r_leC rfl rfl rfl (fun _ => ?_) (fun _ => ?_); refine r_pT rfl rfl rfl <| r_nx h19 <| c_cT rfl <| c_sq fun k23 h23 => c_rg <| r_mv rfl rfl <| r_cv rfl (cv_int (k' := .i64) rfl Tryz.underlying3 (w64 (by omega))) rfl <| r_su rfl rfl rfl (wsub64 (by omega)) <| r_ad rfl rfl rfl (wadd64 (by omega)) <| r_as rfl rfl <| r_nx h23 <| c_rt <| WE.then_r ?_; rotate_left; refine r_pT rfl rfl rfl <| r_nx h19 <| c_cF rfl <| c_sk <| WE.then_n h17 <| c_sq fun k23 h23 => c_rg <| r_as rfl rfl <| r_nx h23 <| c_rt ?_; rotate_left; refine r_mv rfl rfl <| r_sk rfl rfl <| r_sk rfl rfl <| r_pF rfl rfl rfl <| r_nx h19 <| c_cF rfl <| c_sk <| WE.then_n h17 <| c_sq fun k22 h22 => c_rg <| r_as rfl rfl <| r_nx h22 <| c_rt ?_; rotate_left)
  all_goals
    first
    | exact WE.ret1 () rfl rfl (by rw [val_law c, if_pos (by omega)]; rfl) trivial Mem.drop
    | exact WE.ret1 () rfl rfl (by rw [val_law c, if_neg (by omega), if_pos (by omega)]; rfl) trivial Mem.drop
    | exact WE.ret1 () rfl rfl (by rw [val_law c, if_neg (by omega), if_neg (by omega), if_pos (by omega)]; rfl) trivial Mem.drop
    | exact WE.ret1 () rfl rfl (by rw [val_law c, if_neg (by omega), if_neg (by omega), if_neg (by omega)]; rfl) trivial Mem.drop
set_option maxRecDepth 100000 in
theorem rhyphen_spec (s : ByteArray) (hn : s.size ≤ 9000000000000000000) (w0 : World) (m0 : List Res) : PureC Tryz.prog 122 [.string s] w0 m0 (.int .i64 (lastL s.data.toList 45 s.size)) := by
  refine Ct.of Tryz.func122 rfl (by kernel_rfl) rfl ?_
  (refine c_sq fun k5 h5 => c_rg <| r_as rfl rfl <| r_nx h5 <| c_sq fun k7 h7 => c_sq fun k9 h9 => c_rg <| r_mv rfl rfl <| r_lS Tryz.underlying9 rfl rfl <| r_su rfl rfl rfl (wsub64 (by omega)) <| r_as rfl rfl <| r_nx h9 <| c_bl ?_; rotate_left)
  refine WC.loop (α := Nat) (fun k => [(0, .string s), (3, .int .i64 ((k : Int) - 1))]) (fun _ => []) (fun k => k ≤ s.size ∧ lastL s.data.toList 45 k = lastL s.data.toList 45 s.size) (fun k => k) s.size ⟨Nat.le_refl _, rfl⟩ ⟨rfl, rfl, trivial⟩ Mem.keep ?_
  rintro k ⟨hk, e⟩
  cases k with
  | zero =>
    (refine c_sq fun k13 h13 => c_sq fun k15 h15 => c_rg <| r_mv rfl rfl <| r_geF rfl rfl rfl (by omega) <| r_nx h15 <| c_cF rfl <| c_ex <| WE.then_x <| WE.then_x <| WE.blk_x <| WE.then_n h7 <| c_sq fun k17 h17 => c_rg <| r_as rfl rfl <| r_nx h17 <| c_rt ?_; rotate_left)
    exact WE.ret1 () rfl rfl (by rw [← e]; rfl) trivial Mem.drop
  | succ k =>
    have hlt : k < s.data.size := hk
    have e1 : ((k + 1 : Nat) : Int) - 1 = (k : Int) := by omega
    rw [lastL] at e
    rw [e1]
    (refine c_sq fun k20 h20 => c_sq fun k22 h22 => c_rg <| r_mv rfl rfl <| r_geT rfl rfl rfl (by omega) <| r_nx h22 <| c_cT rfl <| c_sk <| WE.then_n h20 <| c_sq fun k24 h24 => c_bl <| c_sq fun k26 h26 => c_rg <| r_mv rfl rfl <| r_mv rfl rfl ?_; rotate_left)
    refine r_iS (v := s.data.toList.getD k 0) Tryz.underlying9 rfl rfl rfl (by omega) (byte_at s hlt) ?_
    by_cases hc : s.data.toList.getD k 0 = 45
    · rw [if_pos hc] at e
      have hc2 : ((s.data.toList.getD k 0).toNat : Int) = 45 := by rw [hc]; rfl
      (refine r_eqT rfl rfl rfl (by omega) <| r_nx h26 <| c_cT rfl <| c_sq fun k31 h31 => c_rg <| r_mv rfl rfl <| r_as rfl rfl <| r_nx h31 <| c_rt <| WE.blk_r <| WE.then_r <| WE.then_r <| WE.blk_r <| WE.then_r ?_; rotate_left)
      exact WE.ret1 () rfl rfl (by rw [← e]; rfl) trivial Mem.drop
    · rw [if_neg hc] at e
      have hc2 : ¬ ((s.data.toList.getD k 0).toNat : Int) = 45 := fun h => hc (UInt8.toNat_inj.1 (by
        have : (45 : UInt8).toNat = 45 := rfl
        omega))
      (refine r_eqF rfl rfl rfl (by omega) <| r_nx h26 <| c_cF rfl <| c_sk <| WE.blk_n <| WE.then_n h24 <| c_rg <| r_mv rfl rfl <| r_su rfl rfl rfl (wsub64 (by omega)) <| r_as rfl rfl <| r_nl ?_; rotate_left)
      exact WE.back k ⟨by omega, e⟩ (by omega) ⟨rfl, rfl, trivial⟩ Mem.keep
set_option maxRecDepth 100000 in
theorem rplain_spec (A : Option Addr) (c : Nat) (l : List Int) (hn : l.length ≤ 9000000000000000000) (w0 : World) (m0 : List Res) (hA : Rd w0 m0 A (runes l)) : PureC Tryz.prog 71 [.slice A l.length c] w0 m0 (.bool (!l.any (fun c => decide (128 ≤ c)))) := by
  refine Ct.of Tryz.func71 rfl (by kernel_rfl) rfl ?_
  (refine c_sq fun k8 h8 => c_rg <| r_as rfl rfl <| r_nx h8 <| c_sq fun k10 h10 => c_sq fun k12 h12 => c_rg <| r_as rfl rfl <| r_nx h12 <| c_bl ?_; rotate_left)
  refine WC.loop (α := Nat) (fun i => [(0, .slice A l.length c), (3, .int .i64 i)]) (fun _ => []) (fun i => i ≤ l.length ∧ ∀ j, j < i → ¬ 128 ≤ l.getD j 0) (fun i => l.length - i) 0 ⟨by omega, by omega⟩ ⟨rfl, rfl, trivial⟩ Mem.keep ?_
  rintro i ⟨hi, hb⟩
  by_cases hlt : i < l.length
  · by_cases h : 128 ≤ l.getD i 0
    · have e : l.any (fun c => decide (128 ≤ c)) = true := by
        rw [List.any_eq_true]
        exact ⟨l.getD i 0, by simp [hlt], decide_eq_true h⟩
      (refine c_sq fun k20 h20 => c_sq fun k22 h22 => c_rg <| r_mv rfl rfl <| r_mv rfl rfl <| r_ls Tryz.underlying47 rfl rfl <| r_ltT rfl rfl rfl (by omega) <| r_nx h22 <| c_cT rfl <| c_sk <| WE.then_n h20 <| c_sq fun k24 h24 => c_bl <| c_sq fun k26 h26 => c_rg <| r_mv rfl rfl <| r_mv rfl rfl <| r_im (hA.app _) Tryz.underlying47 (by kernel_rfl) rfl rfl rfl rfl (by omega) (by omega) <| r_li (i) (hA.app _) Tryz.underlying21 rfl rfl rfl (by omega) <| r_geT rfl rfl rfl (by omega) <| r_nx h26 <| c_cT rfl <| c_sq fun k28 h28 => c_rg <| r_as rfl rfl <| r_nx h28 <| c_rt <| WE.blk_r <| WE.then_r <| WE.then_r <| WE.blk_r <| WE.then_r ?_; rotate_left)
      exact WE.ret1 () rfl rfl (by rw [e]; rfl) trivial Mem.drop
    · (refine c_sq fun k19 h19 => c_sq fun k21 h21 => c_rg <| r_mv rfl rfl <| r_mv rfl rfl <| r_ls Tryz.underlying47 rfl rfl <| r_ltT rfl rfl rfl (by omega) <| r_nx h21 <| c_cT rfl <| c_sk <| WE.then_n h19 <| c_sq fun k23 h23 => c_bl <| c_sq fun k25 h25 => c_rg <| r_mv rfl rfl <| r_mv rfl rfl <| r_im (hA.app _) Tryz.underlying47 (by kernel_rfl) rfl rfl rfl rfl (by omega) (by omega) <| r_li (i) (hA.app _) Tryz.underlying21 rfl rfl rfl (by omega) <| r_geF rfl rfl rfl (by omega) <| r_nx h25 <| c_cF rfl <| c_sk <| WE.blk_n <| WE.then_n h23 <| c_rg <| r_mv rfl rfl <| r_ad rfl rfl rfl (wadd64 (by omega)) <| r_as rfl rfl <| r_nl ?_; rotate_left)
      exact WE.back (i + 1) ⟨by omega, fun j hj => by
        rcases Nat.lt_succ_iff_lt_or_eq.1 hj with h' | h'
        · exact hb j h'
        · rw [h']; exact h⟩ (by omega) ⟨rfl, rfl, trivial⟩ Mem.keep
  · have e : l.any (fun c => decide (128 ≤ c)) = false := by
      rw [List.any_eq_false]
      intro x hx
      obtain ⟨j, hj, rfl⟩ := List.mem_iff_getElem.1 hx
      have := hb j (by omega)
      simpa [hj] using this
    (refine c_sq fun k19 h19 => c_sq fun k21 h21 => c_rg <| r_mv rfl rfl <| r_mv rfl rfl <| r_ls Tryz.underlying47 rfl rfl <| r_ltF rfl rfl rfl (by omega) <| r_nx h21 <| c_cF rfl <| c_ex <| WE.then_x <| WE.then_x <| WE.blk_x <| WE.then_n h10 <| c_sq fun k23 h23 => c_rg <| r_as rfl rfl <| r_nx h23 <| c_rt ?_; rotate_left)
    exact WE.ret1 () rfl rfl (by rw [e]; rfl) trivial Mem.drop
set_option maxRecDepth 100000 in
theorem rmarked_spec (A : Option Addr) (c : Nat) (l : List Int) (w0 : World) (m0 : List Res) (hA : Rd w0 m0 A (runes l)) : PureC Tryz.prog 73 [.slice A l.length c] w0 m0 (.bool (decide (MarkP l))) := by
  refine Ct.of Tryz.func73 rfl (by kernel_rfl) rfl ?_
  by_cases h0 : 0 < l.length
  · (refine c_sq fun k8 h8 => c_rg <| r_as rfl rfl <| r_nx h8 <| c_sq fun k10 h10 => c_rg <| r_mv rfl rfl <| r_ls Tryz.underlying47 rfl rfl <| r_gtT rfl rfl rfl (by omega) <| r_mv rfl rfl <| r_mv rfl rfl <| r_im (hA.app _) Tryz.underlying47 (by kernel_rfl) rfl rfl rfl rfl (by omega) (by omega) <| r_li (0) (hA.app _) Tryz.underlying21 rfl rfl rfl (by omega) <| r_geC rfl rfl rfl (fun _ => ?_) (fun _ => ?_); refine r_pT rfl rfl rfl <| r_mv rfl rfl <| r_mv rfl rfl <| r_im (hA.app _) Tryz.underlying47 (by kernel_rfl) rfl rfl rfl rfl (by omega) (by omega) <| r_li (0) (hA.app _) Tryz.underlying21 rfl rfl rfl (by omega) <| r_leC rfl rfl rfl (fun _ => ?_) (fun _ => ?_); refine r_pT rfl rfl rfl <| r_as rfl rfl <| r_nx h10 <| c_rt ?_; rotate_left; refine r_pT rfl rfl rfl <| r_as rfl rfl <| r_nx h10 <| c_rt ?_; rotate_left; refine r_pT rfl rfl rfl <| r_mv rfl rfl <| r_sk rfl rfl <| r_sk rfl rfl <| r_sk rfl rfl <| r_sk rfl rfl <| r_pF rfl rfl rfl <| r_as rfl rfl <| r_nx h10 <| c_rt ?_; rotate_left)
    all_goals
      first
      | exact WE.ret1 () rfl rfl (by rw [decide_eq_true (by omega : MarkP l)]; rfl) trivial Mem.drop
      | exact WE.ret1 () rfl rfl (by rw [decide_eq_false (by omega : ¬ MarkP l)]; rfl) trivial Mem.drop
  · (refine c_sq fun k8 h8 => c_rg <| r_as rfl rfl <| r_nx h8 <| c_sq fun k10 h10 => c_rg <| r_mv rfl rfl <| r_ls Tryz.underlying47 rfl rfl <| r_gtF rfl rfl rfl (by omega) <| r_mv rfl rfl <| r_sk rfl rfl <| r_sk rfl rfl <| r_sk rfl rfl <| r_sk rfl rfl <| r_pF rfl rfl rfl <| r_mv rfl rfl <| r_sk rfl rfl <| r_sk rfl rfl <| r_sk rfl rfl <| r_sk rfl rfl <| r_pF rfl rfl rfl <| r_as rfl rfl <| r_nx h10 <| c_rt ?_; rotate_left)
    exact WE.ret1 () rfl rfl (by rw [decide_eq_false (by omega : ¬ MarkP l)]; rfl) trivial Mem.drop
/-- The least one that is not below n; 1114112: there is none. -/
def leastP (n : Int) (l : List Int) : Int := l.foldl (fun m c => if n ≤ c ∧ c < m then c else m) 1114112
theorem leastP_snoc (n : Int) (l : List Int) (c : Int) : leastP n (l ++ [c]) = if n ≤ c ∧ c < leastP n l then c else leastP n l := by unfold leastP; rw [List.foldl_append]; rfl
theorem least_law {n : Int} (l : List Int) (hl : ∀ c ∈ l, c ≤ 1114111) : (leastP n l = 1114112 ∧ (∀ c ∈ l, c < n) ∧ minGe n l = 1114111) ∨ (leastP n l = minGe n l ∧ leastP n l ≤ 1114111) := by
  have key : ∀ k (l : List Int), l.length = k → (∀ c ∈ l, c ≤ 1114111) → (leastP n l = 1114112 ∧ (∀ c ∈ l, c < n) ∧ minGe n l = 1114111) ∨ (leastP n l = minGe n l ∧ leastP n l ≤ 1114111) := by
    intro k
    induction k with
    | zero =>
      intro l hk _
      have : l = [] := List.eq_nil_of_length_eq_zero hk
      subst this
      exact .inl ⟨rfl, by simp, rfl⟩
    | succ k ih =>
      intro l hk hl
      rcases List.eq_nil_or_concat l with rfl | ⟨t, u, rfl⟩
      · simp at hk
      · rw [List.concat_eq_append] at hk hl ⊢
        have hu := hl u (by simp)
        rw [leastP_snoc, minGe_snoc]
        rcases ih t (by simpa using hk) (fun c hc => hl c (by simp [hc])) with ⟨i1, i2, i3⟩ | ⟨i1, i2⟩
        · by_cases h : n ≤ u
          · right
            rw [if_pos ⟨h, by omega⟩, if_pos h, i3, Int.min_eq_right hu]
            exact ⟨rfl, hu⟩
          · left
            rw [if_neg (by omega), if_neg h]
            refine ⟨i1, fun c hc => ?_, i3⟩
            rcases List.mem_append.1 hc with hc | hc
            · exact i2 c hc
            · rw [List.mem_singleton] at hc; omega
        · right
          by_cases h : n ≤ u
          · rw [if_pos h]
            by_cases h2 : u < leastP n t
            · rw [if_pos ⟨h, h2⟩, Int.min_eq_right (by omega)]
              exact ⟨rfl, hu⟩
            · rw [if_neg (by omega), Int.min_eq_left (by omega)]
              exact ⟨i1, i2⟩
          · rw [if_neg (by omega), if_neg h]
            exact ⟨i1, i2⟩
  exact key l.length l rfl hl
set_option maxRecDepth 100000 in
theorem rleast_spec (A : Option Addr) (c : Nat) (l : List Int) (n : Int) (hn : l.length ≤ 9000000000000000000) (hl : ∀ x ∈ l, -2147483648 ≤ x ∧ x ≤ 2147483647) (w0 : World) (m0 : List Res) (hA : Rd w0 m0 A (runes l)) :
    PureC Tryz.prog 104 [.slice A l.length c, .int .i64 n] w0 m0 (.int .i64 (leastP n l)) := by
  refine Ct.of Tryz.func104 rfl (by kernel_rfl) rfl ?_
  (refine c_sq fun k10 h10 => c_rg <| r_as rfl rfl <| r_nx h10 <| c_sq fun k12 h12 => c_rg <| r_as rfl rfl <| r_nx h12 <| c_sq fun k14 h14 => c_sq fun k16 h16 => c_rg <| r_as rfl rfl <| r_nx h16 <| c_bl ?_; rotate_left)
  refine WC.loop (α := Nat) (fun i => [(0, .slice A l.length c), (1, .int .i64 n), (6, .int .i64 i), (5, .int .i64 (leastP n (l.take i)))]) (fun _ => []) (fun i => i ≤ l.length) (fun i => l.length - i) 0 (by omega) ⟨rfl, rfl, rfl, rfl, trivial⟩ Mem.keep ?_
  intro i hi
  by_cases hlt : i < l.length
  · have hb := hl (l.getD i 0) (by simp [hlt])
    have hs := leastP_snoc n (l.take i) (l.getD i 0)
    rw [show l.take i ++ [l.getD i 0] = l.take (i + 1) by rw [List.take_add_one, List.getElem?_eq_getElem hlt]; simp [hlt]] at hs
    by_cases h1 : n ≤ l.getD i 0
    · by_cases h2 : l.getD i 0 < leastP n (l.take i)
      · rw [if_pos ⟨h1, h2⟩] at hs
        (refine c_sq fun k27 h27 => c_sq fun k29 h29 => c_rg <| r_mv rfl rfl <| r_mv rfl rfl <| r_ls Tryz.underlying47 rfl rfl <| r_ltT rfl rfl rfl (by omega) <| r_nx h29 <| c_cT rfl <| c_sk <| WE.then_n h27 <| c_sq fun k31 h31 => c_bl <| c_sq fun k33 h33 => c_rg <| r_mv rfl rfl <| r_mv rfl rfl <| r_im (hA.app _) Tryz.underlying47 (by kernel_rfl) rfl rfl rfl rfl (by omega) (by omega) <| r_li (i) (hA.app _) Tryz.underlying21 rfl rfl rfl (by omega) <| r_cv rfl (cv_int (k' := .i64) rfl Tryz.underlying3 (w64 (by omega))) rfl <| r_mv rfl rfl <| r_geT rfl rfl rfl (by omega) <| r_mv rfl rfl <| r_mv rfl rfl <| r_mv rfl rfl <| r_im (hA.app _) Tryz.underlying47 (by kernel_rfl) rfl rfl rfl rfl (by omega) (by omega) <| r_li (i) (hA.app _) Tryz.underlying21 rfl rfl rfl (by omega) <| r_cv rfl (cv_int (k' := .i64) rfl Tryz.underlying3 (w64 (by omega))) rfl <| r_mv rfl rfl <| r_ltT rfl rfl rfl (by omega) <| r_pT rfl rfl rfl <| r_nx h33 <| c_cT rfl <| c_rg <| r_mv rfl rfl <| r_mv rfl rfl <| r_im (hA.app _) Tryz.underlying47 (by kernel_rfl) rfl rfl rfl rfl (by omega) (by omega) <| r_li (i) (hA.app _) Tryz.underlying21 rfl rfl rfl (by omega) <| r_cv rfl (cv_int (k' := .i64) rfl Tryz.underlying3 (w64 (by omega))) rfl <| r_as rfl rfl <| r_nl <| WE.blk_n <| WE.then_n h31 <| c_rg <| r_mv rfl rfl <| r_ad rfl rfl rfl (wadd64 (by omega)) <| r_as rfl rfl <| r_nl ?_; rotate_left)
        exact WE.back (i + 1) (by omega) (by omega) ⟨rfl, rfl, rfl, by rw [hs]; rfl, trivial⟩ Mem.keep
      · rw [if_neg (by omega)] at hs
        (refine c_sq fun k27 h27 => c_sq fun k29 h29 => c_rg <| r_mv rfl rfl <| r_mv rfl rfl <| r_ls Tryz.underlying47 rfl rfl <| r_ltT rfl rfl rfl (by omega) <| r_nx h29 <| c_cT rfl <| c_sk <| WE.then_n h27 <| c_sq fun k31 h31 => c_bl <| c_sq fun k33 h33 => c_rg <| r_mv rfl rfl <| r_mv rfl rfl <| r_im (hA.app _) Tryz.underlying47 (by kernel_rfl) rfl rfl rfl rfl (by omega) (by omega) <| r_li (i) (hA.app _) Tryz.underlying21 rfl rfl rfl (by omega) <| r_cv rfl (cv_int (k' := .i64) rfl Tryz.underlying3 (w64 (by omega))) rfl <| r_mv rfl rfl <| r_geT rfl rfl rfl (by omega) <| r_mv rfl rfl <| r_mv rfl rfl <| r_mv rfl rfl <| r_im (hA.app _) Tryz.underlying47 (by kernel_rfl) rfl rfl rfl rfl (by omega) (by omega) <| r_li (i) (hA.app _) Tryz.underlying21 rfl rfl rfl (by omega) <| r_cv rfl (cv_int (k' := .i64) rfl Tryz.underlying3 (w64 (by omega))) rfl <| r_mv rfl rfl <| r_ltF rfl rfl rfl (by omega) <| r_pT rfl rfl rfl <| r_nx h33 <| c_cF rfl <| c_sk <| WE.blk_n <| WE.then_n h31 <| c_rg <| r_mv rfl rfl <| r_ad rfl rfl rfl (wadd64 (by omega)) <| r_as rfl rfl <| r_nl ?_; rotate_left)
        exact WE.back (i + 1) (by omega) (by omega) ⟨rfl, rfl, rfl, by rw [hs]; rfl, trivial⟩ Mem.keep
    · rw [if_neg (by omega)] at hs
      (refine c_sq fun k26 h26 => c_sq fun k28 h28 => c_rg <| r_mv rfl rfl <| r_mv rfl rfl <| r_ls Tryz.underlying47 rfl rfl <| r_ltT rfl rfl rfl (by omega) <| r_nx h28 <| c_cT rfl <| c_sk <| WE.then_n h26 <| c_sq fun k30 h30 => c_bl <| c_sq fun k32 h32 => c_rg <| r_mv rfl rfl <| r_mv rfl rfl <| r_im (hA.app _) Tryz.underlying47 (by kernel_rfl) rfl rfl rfl rfl (by omega) (by omega) <| r_li (i) (hA.app _) Tryz.underlying21 rfl rfl rfl (by omega) <| r_cv rfl (cv_int (k' := .i64) rfl Tryz.underlying3 (w64 (by omega))) rfl <| r_mv rfl rfl <| r_geF rfl rfl rfl (by omega) <| r_mv rfl rfl <| r_sk rfl rfl <| r_sk rfl rfl <| r_sk rfl rfl <| r_sk rfl rfl <| r_sk rfl rfl <| r_sk rfl rfl <| r_sk rfl rfl <| r_pF rfl rfl rfl <| r_nx h32 <| c_cF rfl <| c_sk <| WE.blk_n <| WE.then_n h30 <| c_rg <| r_mv rfl rfl <| r_ad rfl rfl rfl (wadd64 (by omega)) <| r_as rfl rfl <| r_nl ?_; rotate_left)
      exact WE.back (i + 1) (by omega) (by omega) ⟨rfl, rfl, rfl, by rw [hs]; rfl, trivial⟩ Mem.keep
  · rw [show l.take i = l from List.take_of_length_le (by omega)]
    (refine c_sq fun k21 h21 => c_sq fun k23 h23 => c_rg <| r_mv rfl rfl <| r_mv rfl rfl <| r_ls Tryz.underlying47 rfl rfl <| r_ltF rfl rfl rfl (by omega) <| r_nx h23 <| c_cF rfl <| c_ex <| WE.then_x <| WE.then_x <| WE.blk_x <| WE.then_n h14 <| c_sq fun k25 h25 => c_rg <| r_mv rfl rfl <| r_as rfl rfl <| r_nx h25 <| c_rt ?_; rotate_left)
    exact WE.ret1 () rfl rfl rfl trivial Mem.drop
end Go.Proofs.YtkggplnigjlegaaGreatDoor

/- The document's Scalar: the walk. -/
namespace Go.Proofs.YtkggplnigjlegaaGreatDoor
open Go.RowKit Go.Gp

set_option maxRecDepth 100000 in
theorem scalar_spec (c : Int) (w0 : World) (m0 : List Res) : PureC Tryz.prog 69 [.int .i32 c] w0 m0 (.bool (decide (ScP c))) := by
  refine Ct.of Tryz.func69 rfl (by kernel_rfl) rfl ?_
  (refine c_sq fun k4 h4 => c_rg <| r_as rfl rfl <| r_nx h4 <| c_sq fun k6 h6 => c_rg <| r_mv rfl rfl <| r_geC rfl rfl rfl (fun _ => ?_) (fun _ => ?_); refine r_mv rfl rfl <| r_mv rfl rfl <| r_leC rfl rfl rfl (fun _ => ?_) (fun _ => ?_); refine r_pT rfl rfl rfl <| r_mv rfl rfl <| r_mv rfl rfl <| r_ltC rfl rfl rfl (fun _ => ?_) (fun _ => ?_); refine r_mv rfl rfl <| r_sk rfl rfl <| r_sk rfl rfl <| r_pT rfl rfl rfl <| r_pT rfl rfl rfl <| r_as rfl rfl <| r_nx h6 <| c_rt ?_; rotate_left; refine r_mv rfl rfl <| r_mv rfl rfl <| r_gtC rfl rfl rfl (fun _ => ?_) (fun _ => ?_); refine r_pF rfl rfl rfl <| r_pT rfl rfl rfl <| r_as rfl rfl <| r_nx h6 <| c_rt ?_; rotate_left; refine r_pF rfl rfl rfl <| r_pT rfl rfl rfl <| r_as rfl rfl <| r_nx h6 <| c_rt ?_; rotate_left; refine r_pT rfl rfl rfl <| r_mv rfl rfl <| r_sk rfl rfl <| r_sk rfl rfl <| r_sk rfl rfl <| r_sk rfl rfl <| r_sk rfl rfl <| r_sk rfl rfl <| r_pF rfl rfl rfl <| r_as rfl rfl <| r_nx h6 <| c_rt ?_; rotate_left; refine r_mv rfl rfl <| r_sk rfl rfl <| r_sk rfl rfl <| r_pF rfl rfl rfl <| r_mv rfl rfl <| r_sk rfl rfl <| r_sk rfl rfl <| r_sk rfl rfl <| r_sk rfl rfl <| r_sk rfl rfl <| r_sk rfl rfl <| r_pF rfl rfl rfl <| r_as rfl rfl <| r_nx h6 <| c_rt ?_; rotate_left)
  all_goals
    first
    | exact WE.ret1 () rfl rfl (by rw [decide_eq_true (by omega : ScP c)]; rfl) trivial Mem.drop
    | exact WE.ret1 () rfl rfl (by rw [decide_eq_false (by omega : ¬ ScP c)]; rfl) trivial Mem.drop

end Go.Proofs.YtkggplnigjlegaaGreatDoor

/- The document's Punycode read: numbers by digits, a list with a code point put in, a text: the walks; and the equality with the program's. -/
set_option linter.unusedVariables false
namespace Go.Proofs.YtkggplnigjlegaaGreatDoor
open Go.RowKit Go.Gp

set_option maxRecDepth 100000 in
theorem rweighted_spec (s : ByteArray) (at_ : Nat) (i0 bias : Int) (hs : s.size ≤ 65536) (hat : at_ ≤ s.size) (hi0 : 0 ≤ i0 ∧ i0 ≤ 1099511627776) (hb : 0 ≤ bias ∧ bias ≤ 1000) (w0 : World) (m0 : List Res) :
    PureC Tryz.prog 123 [.string s, .int .i64 at_, .int .i64 i0, .int .i64 bias] w0 m0
      (.tuple #[.int .i64 (readL bias (s.data.toList.drop at_) 0 i0 1).1, .int .i64 (if (readL bias (s.data.toList.drop at_) 0 i0 1).2 = 0 then 0 else at_ + (readL bias (s.data.toList.drop at_) 0 i0 1).2)]) := by
  obtain ⟨R, hR⟩ : ∃ R, R = readL bias (s.data.toList.drop at_) 0 i0 1 := ⟨_, rfl⟩
  rw [← hR]
  refine Ct.of Tryz.func123 rfl (by kernel_rfl) rfl ?_
  (refine c_sq fun k13 h13 => c_rg <| r_as rfl rfl <| r_as rfl rfl <| r_nx h13 <| c_sq fun k15 h15 => c_rg <| r_as rfl rfl <| r_nx h15 <| c_sq fun k17 h17 => c_rg <| r_as rfl rfl <| r_nx h17 <| c_sq fun k19 h19 => c_bl ?_; rotate_left)
  refine WC.loop (α := Nat × Int × Int) (fun x => [(0, .string s), (1, .int .i64 ((at_ + x.1 : Nat) : Int)), (2, .int .i64 x.2.1), (3, .int .i64 bias), (10, .int .i64 x.2.2), (11, .int .i64 (((x.1 : Int) + 1) * 36))]) (fun _ => [])
    (fun x => at_ + x.1 ≤ s.size ∧ readL bias (s.data.toList.drop (at_ + x.1)) x.1 x.2.1 x.2.2 = R ∧ (0 ≤ x.2.1 ∧ x.2.1 ≤ 1099511627776) ∧ (1 ≤ x.2.2 ∧ x.2.2 ≤ 1099511627776)) (fun x => s.size - x.1) (0, i0, 1) ⟨hat, hR.symm, by dsimp only; omega, by dsimp only; omega⟩ ⟨rfl, rfl, rfl, rfl, rfl, rfl, trivial⟩ Mem.keep ?_
  rintro ⟨a, i, w⟩ ⟨ha, e, h1, h2⟩
  dsimp only at ha e h1 h2 ⊢
  by_cases hlt : at_ + a < s.size
  · have hlt' : at_ + a < s.data.toList.length := by simpa using hlt
    have hd : s.data.toList.drop (at_ + a) = s.data.toList.getD (at_ + a) 0 :: s.data.toList.drop (at_ + a + 1) := by
      rw [List.drop_eq_getElem_cons hlt', List.getD_eq_getElem?_getD, List.getElem?_eq_getElem hlt']
      rfl
    rw [hd, readL] at e
    have hbt := byte_at s hlt
    generalize s.data.toList.getD (at_ + a) 0 = c at e hbt
    have ht := thrP_bd (((a : Int) + 1) * 36) bias
    have hv := valD_bd (lowB c)
    have hval := fun mm => rvalue_spec c w0 mm
    generalize valD (lowB c) = d at e hv hval
    have m1 : d * w ≤ 35 * w := Int.mul_le_mul_of_nonneg_right hv.2 (by omega)
    have m2 : -1 * w ≤ d * w := Int.mul_le_mul_of_nonneg_right hv.1 (by omega)
    have m3 : w * (36 - thrP (((a : Int) + 1) * 36) bias) ≤ w * 35 := Int.mul_le_mul_of_nonneg_left (by omega) (by omega)
    have m4 : w * 10 ≤ w * (36 - thrP (((a : Int) + 1) * 36) bias) := Int.mul_le_mul_of_nonneg_left (by omega) (by omega)
    (refine c_sq fun k45 h45 => c_sq fun k47 h47 => c_rg <| r_mv rfl rfl <| r_mv rfl rfl <| r_lS Tryz.underlying9 rfl rfl <| r_ltT rfl rfl rfl (by omega) <| r_nx h47 <| c_cT rfl <| c_sk <| WE.then_n h45 <| c_bl <| c_sq fun k49 h49 => c_rg <| r_mv rfl rfl <| r_mv rfl rfl ?_; rotate_left)
    refine r_iS (v := c) Tryz.underlying9 rfl rfl rfl (by omega) (by rw [show ((at_ + a : Nat) : Int).toNat = at_ + a by omega]; exact hbt) ?_
    refine WX.pure rfl rfl (hval _) rfl rfl ?_
    by_cases v1 : d < 0
    · rw [if_pos (.inl v1)] at e
      (refine r_as rfl rfl <| r_nx h49 <| c_sq fun k53 h53 => c_rg <| r_mv rfl rfl <| r_ad rfl rfl rfl (wadd64 (by omega)) <| r_as rfl rfl <| r_nx h53 <| c_sq fun k55 h55 => c_sq fun k57 h57 => c_rg <| r_mv rfl rfl <| r_ltT rfl rfl rfl (by omega) <| r_nx h57 <| c_cT rfl <| c_sq fun k59 h59 => c_rg <| r_as rfl rfl <| r_as rfl rfl <| r_nx h59 <| c_rt <| WE.then_r <| WE.blk_r <| WE.then_r <| WE.blk_r <| WE.then_r ?_; rotate_left)
      exact WE.ret2 () rfl rfl rfl rfl (by rw [← e]; rfl) trivial Mem.drop
    · by_cases v2 : 1099511627776 < i + d * w
      · rw [if_pos (.inr v2)] at e
        (refine r_as rfl rfl <| r_nx h49 <| c_sq fun k54 h54 => c_rg <| r_mv rfl rfl <| r_ad rfl rfl rfl (wadd64 (by omega)) <| r_as rfl rfl <| r_nx h54 <| c_sq fun k56 h56 => c_sq fun k58 h58 => c_rg <| r_mv rfl rfl <| r_ltF rfl rfl rfl (by omega) <| r_nx h58 <| c_cF rfl <| c_sk <| WE.then_n h56 <| c_sq fun k60 h60 => c_rg <| r_mv rfl rfl <| r_mv rfl rfl <| r_mv rfl rfl <| r_mu rfl rfl rfl (wmul64 (by omega)) <| r_ad rfl rfl rfl (wadd64 (by omega)) <| r_as rfl rfl <| r_nx h60 <| c_sq fun k62 h62 => c_sq fun k64 h64 => c_rg <| r_mv rfl rfl <| r_gtT rfl rfl rfl (by omega) <| r_nx h64 <| c_cT rfl <| c_sq fun k66 h66 => c_rg <| r_as rfl rfl <| r_as rfl rfl <| r_nx h66 <| c_rt <| WE.then_r <| WE.blk_r <| WE.then_r <| WE.blk_r <| WE.then_r ?_; rotate_left)
        exact WE.ret2 () rfl rfl rfl rfl (by rw [← e]; rfl) trivial Mem.drop
      · rw [if_neg (by omega)] at e
        (refine r_as rfl rfl <| r_nx h49 <| c_sq fun k54 h54 => c_rg <| r_mv rfl rfl <| r_ad rfl rfl rfl (wadd64 (by omega)) <| r_as rfl rfl <| r_nx h54 <| c_sq fun k56 h56 => c_sq fun k58 h58 => c_rg <| r_mv rfl rfl <| r_ltF rfl rfl rfl (by omega) <| r_nx h58 <| c_cF rfl <| c_sk <| WE.then_n h56 <| c_sq fun k60 h60 => c_rg <| r_mv rfl rfl <| r_mv rfl rfl <| r_mv rfl rfl <| r_mu rfl rfl rfl (wmul64 (by omega)) <| r_ad rfl rfl rfl (wadd64 (by omega)) <| r_as rfl rfl <| r_nx h60 <| c_sq fun k62 h62 => c_sq fun k64 h64 => c_rg <| r_mv rfl rfl <| r_gtF rfl rfl rfl (by omega) <| r_nx h64 <| c_cF rfl <| c_sk <| WE.then_n h62 <| c_sq fun k66 h66 => c_rg <| r_mv rfl rfl <| r_mv rfl rfl ?_; rotate_left)
        refine WX.pure rfl rfl (rthr_spec (((a : Int) + 1) * 36) bias (by omega) _ _) rfl rfl ?_
        by_cases v3 : d < thrP (((a : Int) + 1) * 36) bias
        · rw [if_pos v3] at e
          (refine r_as rfl rfl <| r_nx h66 <| c_sq fun k70 h70 => c_sq fun k72 h72 => c_rg <| r_mv rfl rfl <| r_mv rfl rfl <| r_ltT rfl rfl rfl (by omega) <| r_nx h72 <| c_cT rfl <| c_sq fun k74 h74 => c_rg <| r_mv rfl rfl <| r_mv rfl rfl <| r_as rfl rfl <| r_as rfl rfl <| r_nx h74 <| c_rt <| WE.then_r <| WE.blk_r <| WE.then_r <| WE.blk_r <| WE.then_r ?_; rotate_left)
          exact WE.ret2 () rfl rfl rfl rfl (by rw [← e, if_neg (by dsimp only; omega)]; exact congrArg (fun z => Value.tuple #[.int .i64 (i + d * w), .int .i64 z]) (by dsimp only; omega)) trivial Mem.drop
        · rw [if_neg v3] at e
          have m5 : 0 ≤ d * w := Int.mul_nonneg (by omega) (by omega)
          by_cases v4 : 1099511627776 < w * (36 - thrP (((a : Int) + 1) * 36) bias)
          · rw [if_pos v4] at e
            (refine r_as rfl rfl <| r_nx h66 <| c_sq fun k73 h73 => c_sq fun k75 h75 => c_rg <| r_mv rfl rfl <| r_mv rfl rfl <| r_ltF rfl rfl rfl (by omega) <| r_nx h75 <| c_cF rfl <| c_sk <| WE.then_n h73 <| c_sq fun k77 h77 => c_rg <| r_mv rfl rfl <| r_mv rfl rfl <| r_su rfl rfl rfl (wsub64 (by omega)) <| r_mu rfl rfl rfl (wmul64 (by omega)) <| r_as rfl rfl <| r_nx h77 <| c_sq fun k79 h79 => c_sq fun k81 h81 => c_rg <| r_mv rfl rfl <| r_gtT rfl rfl rfl (by omega) <| r_nx h81 <| c_cT rfl <| c_sq fun k83 h83 => c_rg <| r_as rfl rfl <| r_as rfl rfl <| r_nx h83 <| c_rt <| WE.then_r <| WE.blk_r <| WE.then_r <| WE.blk_r <| WE.then_r ?_; rotate_left)
            exact WE.ret2 () rfl rfl rfl rfl (by rw [← e]; rfl) trivial Mem.drop
          · rw [if_neg v4] at e
            (refine r_as rfl rfl <| r_nx h66 <| c_sq fun k73 h73 => c_sq fun k75 h75 => c_rg <| r_mv rfl rfl <| r_mv rfl rfl <| r_ltF rfl rfl rfl (by omega) <| r_nx h75 <| c_cF rfl <| c_sk <| WE.then_n h73 <| c_sq fun k77 h77 => c_rg <| r_mv rfl rfl <| r_mv rfl rfl <| r_su rfl rfl rfl (wsub64 (by omega)) <| r_mu rfl rfl rfl (wmul64 (by omega)) <| r_as rfl rfl <| r_nx h77 <| c_sq fun k79 h79 => c_sq fun k81 h81 => c_rg <| r_mv rfl rfl <| r_gtF rfl rfl rfl (by omega) <| r_nx h81 <| c_cF rfl <| c_sk <| WE.then_n h79 <| c_rg <| r_mv rfl rfl <| r_ad rfl rfl rfl (wadd64 (by omega)) <| r_as rfl rfl <| r_nl <| WE.blk_n ?_; rotate_left)
            exact WE.back (a + 1, i + d * w, w * (36 - thrP (((a : Int) + 1) * 36) bias)) ⟨by dsimp only; omega, e, by dsimp only; omega, by dsimp only; omega⟩ (by dsimp only; omega)
              ⟨rfl, congrArg (fun z => some (Value.int .i64 z)) (by dsimp only; omega), rfl, rfl, rfl, congrArg (fun z => some (Value.int .i64 z)) (by dsimp only; omega), trivial⟩ Mem.keep
  · (refine c_sq fun k29 h29 => c_sq fun k31 h31 => c_rg <| r_mv rfl rfl <| r_mv rfl rfl <| r_lS Tryz.underlying9 rfl rfl <| r_ltF rfl rfl rfl (by omega) <| r_nx h31 <| c_cF rfl <| c_ex <| WE.then_x <| WE.then_x <| WE.blk_x <| WE.then_n h19 <| c_sq fun k33 h33 => c_rg <| r_as rfl rfl <| r_as rfl rfl <| r_nx h33 <| c_rt ?_; rotate_left)
    have hsz : s.data.size ≤ at_ + a := by show s.size ≤ at_ + a; omega
    have e0 : s.data.toList.drop (at_ + a) = [] := List.drop_eq_nil_of_le (by simpa using hsz)
    rw [e0, readL] at e
    exact WE.ret2 () rfl rfl rfl rfl (by rw [← e]; rfl) trivial Mem.drop

/-- A number read onto another. -/
theorem readL_shift (bias i0 : Int) (h0 : 0 ≤ i0) (hb : 0 ≤ bias ∧ bias ≤ 1000) : ∀ (r : List UInt8) (a : Nat) (i w : Int), 0 ≤ i → 1 ≤ w →
    readL bias r a (i0 + i) w = if (readL bias r a i w).2 = 0 ∨ 1099511627776 < i0 + (readL bias r a i w).1 then (0, 0) else (i0 + (readL bias r a i w).1, (readL bias r a i w).2)
  | [], a, i, w, _, _ => by simp [readL]
  | c :: r, a, i, w, hi, hw => by
    have ht := thrP_bd (((a : Int) + 1) * 36) bias
    have eL : readL bias (c :: r) a (i0 + i) w = _ := readL.eq_2 bias a (i0 + i) w c r
    have eR : readL bias (c :: r) a i w = _ := readL.eq_2 bias a i w c r
    have ih := readL_shift bias i0 h0 hb r (a + 1) (i + valD (lowB c) * w) (w * (36 - thrP (((a : Int) + 1) * 36) bias))
    have hge := readL_ge bias r (a + 1) (i + valD (lowB c) * w) (w * (36 - thrP (((a : Int) + 1) * 36) bias))
    generalize valD (lowB c) = d at eL eR ih hge
    generalize thrP (((a : Int) + 1) * 36) bias = T at eL eR ih hge ht
    by_cases v1 : d < 0
    · rw [if_pos (.inl v1)] at eL eR
      rw [eL, eR]
      rfl
    · have m5 : 0 ≤ d * w := Int.mul_nonneg (by omega) (by omega)
      have m4 : w * 10 ≤ w * (36 - T) := Int.mul_le_mul_of_nonneg_left (by omega) (by omega)
      by_cases v2 : 1099511627776 < i + d * w
      · rw [if_pos (.inr (by omega))] at eL
        rw [if_pos (.inr v2)] at eR
        rw [eL, eR]
        rfl
      · rw [if_neg (by omega)] at eR
        by_cases v5 : 1099511627776 < i0 + i + d * w
        · rw [if_pos (.inr v5)] at eL
          by_cases v3 : d < T
          · rw [if_pos v3] at eR
            rw [eL, eR, if_pos (.inr (by dsimp only; omega))]
          · rw [if_neg v3] at eR
            by_cases v4 : 1099511627776 < w * (36 - T)
            · rw [if_pos v4] at eR
              rw [eL, eR]
              rfl
            · rw [if_neg v4] at eR
              rw [eL, eR, if_pos]
              rcases hge (by omega) with h | h
              · exact .inl h
              · exact .inr (by omega)
        · rw [if_neg (by omega)] at eL
          by_cases v3 : d < T
          · rw [if_pos v3] at eR eL
            rw [eL, eR, if_neg (by dsimp only; omega), Int.add_assoc]
          · rw [if_neg v3] at eR eL
            by_cases v4 : 1099511627776 < w * (36 - T)
            · rw [if_pos v4] at eR eL
              rw [eL, eR]
              rfl
            · rw [if_neg v4] at eR eL
              rw [eL, eR, Int.add_assoc, ih (by omega) (by omega)]
where
  readL_ge (bias : Int) : ∀ (r : List UInt8) (a : Nat) (i w : Int), 1 ≤ w → (readL bias r a i w).2 = 0 ∨ i ≤ (readL bias r a i w).1
    | [], a, i, w, _ => by simp [readL]
    | c :: r, a, i, w, hw => by
      have ht := thrP_bd (((a : Int) + 1) * 36) bias
      rw [readL]
      generalize valD (lowB c) = d
      by_cases v1 : d < 0
      · rw [if_pos (.inl v1)]; simp
      · have m5 : 0 ≤ d * w := Int.mul_nonneg (by omega) (by omega)
        have m4 : w * 10 ≤ w * (36 - thrP (((a : Int) + 1) * 36) bias) := Int.mul_le_mul_of_nonneg_left (by omega) (by omega)
        split
        · simp
        · split
          · right; dsimp only; omega
          · split
            · simp
            · rcases readL_ge bias r (a + 1) (i + d * w) (w * (36 - thrP (((a : Int) + 1) * 36) bias)) (by omega) with h | h
              · exact .inl h
              · right; omega
set_option maxRecDepth 100000 in
theorem rput_spec (A : Option Addr) (c : Nat) (l : List Int) (i : Nat) (ch : Int) (hn : l.length ≤ 1000000) (hi : i ≤ l.length) (hc : l.length ≤ c) (w0 : World) (m0 : List Res) (hA : Rd w0 m0 A (runes l)) :
    Ct (α := Option Addr × Nat) Tryz.prog 124 [.slice A l.length c, .int .i64 i, .int .i32 ch] w0 [] m0 (fun _ => True) (fun p => SlR p (insL l i ch)) (fun p => [OwnR p (insL l i ch)]) := by
  have e1 : (l.take i).length = i - 0 := by simp; omega
  have e2 : (l.drop i).length = l.length - i := by simp
  have hB1 : Rd w0 m0 (subA A 0 c) (runes (l.take i)) := by
    have := hA.sub 0 (i - 0) c (by simpa using hc)
    rw [runes, List.map_take]
    simpa using this
  have hB2 : Rd w0 m0 (subA A i c) (runes (l.drop i)) := by
    have := hA.sub i (l.length - i) c (by simpa using hc)
    rw [List.take_of_length_le (by simp)] at this
    rw [runes, List.map_drop]
    exact this
  have e3 : insL l i ch = l.take i ++ [ch] ++ l.drop i := by unfold insL; simp
  rw [e3]
  refine Ct.of Tryz.func124 rfl (by kernel_rfl) rfl ?_
  (refine c_sq fun k17 h17 => c_rg <| r_as rfl rfl <| r_nx h17 <| c_sq fun k19 h19 => c_rg <| r_bo Tryz.underlying47 rfl (fun _ => by kernel_rfl) rfl rfl rfl (fun _ => ?_); refine r_mv rfl rfl <| r_mv rfl rfl ?_; rotate_left)
  refine r_sto elem1 size1 rfl rfl (by omega) (by omega) rfl ?_
  rw [sliced_sub, show ((i : Int)).toNat - 0 = (l.take i).length by rw [e1]; omega]
  refine r_am (xs := []) (ys := l.take i) 0 (z := .int .i32 0) (by_ := 4) (f := (.int .i32 ·)) Tryz.underlying47 (by kernel_rfl) rfl rfl rfl rfl (hB1.app _) rfl (fun _ => rfl) (by simp; omega) rfl (fun p1 _ => ?_)
  rw [List.nil_append]
  (refine r_as rfl rfl <| r_nx h19 <| c_sq fun k24 h24 => c_rg <| r_mv rfl rfl <| r_mv rfl rfl <| r_bo Tryz.underlying47 rfl (fun _ => by kernel_rfl) rfl rfl rfl (fun _ => ?_); rotate_left)
  refine r_am (xs := l.take i) (ys := [ch]) 1 (z := .int .i32 0) (by_ := 4) (f := (.int .i32 ·)) Tryz.underlying47 (by kernel_rfl) rfl rfl rfl rfl (Rd.own 0 rfl) rfl (fun _ => rfl) (by omega) rfl (fun p2 _ => ?_)
  (refine r_as rfl rfl <| r_nx h24 <| c_sq fun k29 h29 => c_rg <| r_mv rfl rfl <| r_mv rfl rfl <| r_mv rfl rfl ?_; rotate_left)
  refine r_sf elem1 size1 rfl rfl (by omega) (by omega) rfl ?_
  rw [sliced_sub, show ((i : Int)).toNat = i by omega, ← e2]
  refine r_am (xs := l.take i ++ [ch]) (ys := l.drop i) 1 (z := .int .i32 0) (by_ := 4) (f := (.int .i32 ·)) Tryz.underlying47 (by kernel_rfl) rfl rfl rfl rfl (hB2.app _) rfl (fun _ => rfl) (by rw [List.length_append, e2]; simp; omega) rfl (fun p3 _ => ?_)
  (refine r_as rfl rfl <| r_nx h29 <| c_sq fun k33 h33 => c_rg <| r_mv rfl rfl <| r_as rfl rfl <| r_nx h33 <| c_rt ?_; rotate_left)
  exact WE.ret1 p3 rfl rfl rfl trivial (Mem.pick [1] (by decide) rfl)

theorem ext_toList (s : ByteArray) (a : Nat) : (s.extract a s.size).data.toList = s.data.toList.drop a := by
  rw [ByteArray.data_extract, Array.toList_extract, List.extract_eq_take_drop]
  exact List.take_of_length_le (by simp)
theorem ext_ext (s : ByteArray) (a b : Nat) (h : a ≤ s.size) : (s.extract a s.size).extract b (s.extract a s.size).size = s.extract (a + b) s.size := by
  rw [ByteArray.extract_extract, ByteArray.size_extract]
  congr 1
  omega
def rdV : Option (List Int) → Option Addr × Nat → Value
  | none, _ => .tuple #[.slice none 0 0, .int .i64 2]
  | some l, p => .tuple #[SlR p l, .int .i64 0]
def rdM : Option (List Int) → Option Addr × Nat → List Res
  | none, _ => []
  | some l, p => [OwnR p l]
set_option maxRecDepth 100000 in
theorem rdecode_spec (s : ByteArray) (hs : s.size ≤ 65536) (w0 : World) (m0 : List Res) :
    Ct (α := Option Addr × Nat) Tryz.prog 102 [.string s] w0 [] m0 (fun _ => True) (rdV (decP s)) (rdM (decP s)) := by
  refine Ct.of Tryz.func102 rfl (by kernel_rfl) rfl ?_
  (refine c_sq fun k5 h5 => c_rg <| r_as rfl rfl <| r_as rfl rfl <| r_nx h5 <| c_sq fun k7 h7 => c_sq fun k9 h9 => c_rg <| r_as rfl rfl <| r_nx h9 <| c_bl ?_; rotate_left)
  refine WC.loop (α := Nat) (fun i => [(0, .string s), (4, .int .i64 i)]) (fun _ => []) (fun i => i ≤ s.size ∧ ∀ j, j < i → (s.data.toList.getD j 0).toNat < 128) (fun i => s.size - i) 0 ⟨by omega, by omega⟩ ⟨rfl, rfl, trivial⟩ Mem.keep ?_
  rintro i ⟨hi, hb⟩
  by_cases hlt : i < s.size
  · have h256 := (s.data.toList.getD i 0).toNat_lt
    (refine c_sq fun k16 h16 => c_sq fun k18 h18 => c_rg <| r_mv rfl rfl <| r_mv rfl rfl <| r_lS Tryz.underlying9 rfl rfl <| r_ltT rfl rfl rfl (by omega) <| r_nx h18 <| c_cT rfl <| c_sk <| WE.then_n h16 <| c_sq fun k20 h20 => c_bl <| c_sq fun k22 h22 => c_rg <| r_mv rfl rfl <| r_mv rfl rfl ?_; rotate_left)
    refine r_iS (v := s.data.toList.getD i 0) Tryz.underlying9 rfl rfl rfl (by omega) (byte_at s hlt) ?_
    by_cases hc : (s.data.toList.getD i 0).toNat < 128
    · (refine r_geF rfl rfl rfl (by omega) <| r_mv rfl rfl <| r_mv rfl rfl <| r_lS Tryz.underlying9 rfl rfl <| r_gtF rfl rfl rfl (by omega) <| r_pF rfl rfl rfl <| r_nx h22 <| c_cF rfl <| c_sk <| WE.blk_n <| WE.then_n h20 <| c_rg <| r_mv rfl rfl <| r_ad rfl rfl rfl (wadd64 (by omega)) <| r_as rfl rfl <| r_nl ?_; rotate_left)
      exact WE.back (i + 1) ⟨by omega, fun j hj => by
        rcases Nat.lt_succ_iff_lt_or_eq.1 hj with h | h
        · exact hb j h
        · rw [h]; exact hc⟩ (by omega) ⟨rfl, rfl, trivial⟩ Mem.keep
    · have hP : decP s = none := by
        have : s.data.toList.any (fun b => decide (128 ≤ b.toNat)) = true := by
          rw [List.any_eq_true]
          have h2 : i < s.data.toList.length := by simpa using hlt
          refine ⟨s.data.toList.getD i 0, ?_, decide_eq_true (by omega)⟩
          rw [List.getD_eq_getElem?_getD, List.getElem?_eq_getElem h2]
          exact List.getElem_mem _
        rw [decP, if_pos this]
      (refine r_geT rfl rfl rfl (by omega) <| r_mv rfl rfl <| r_sk rfl rfl <| r_sk rfl rfl <| r_sk rfl rfl <| r_pT rfl rfl rfl <| r_nx h22 <| c_cT rfl <| c_sq fun k26 h26 => c_rg <| r_as rfl rfl <| r_as rfl rfl <| r_nx h26 <| c_rt <| WE.blk_r <| WE.then_r <| WE.then_r <| WE.blk_r <| WE.then_r ?_; rotate_left)
      exact WE.ret2 (none, 0) rfl rfl rfl rfl (by rw [hP]; rfl) trivial (by rw [hP]; exact Mem.drop)
  · have hall : ∀ b ∈ s.data.toList, b.toNat < 128 := by
      intro b hbm
      obtain ⟨j, hj, rfl⟩ := List.mem_iff_getElem.1 hbm
      have hj' : j < s.size := by have h3 := hj; simp at h3; exact h3
      have := hb j (by omega)
      rw [List.getD_eq_getElem?_getD, List.getElem?_eq_getElem hj] at this
      exact this
    have hany : s.data.toList.any (fun b => decide (128 ≤ b.toNat)) = false := by
      rw [List.any_eq_false]
      intro b hbm
      have := hall b hbm
      simp
      omega
    have hat := lastL_bd s.data.toList 45 s.size
    have hP : decP s = (if 0 < lastL s.data.toList 45 s.size then decL (s.size + 1) (s.extract (lastL s.data.toList 45 s.size + 1).toNat s.size) (asc (s.extract 0 (lastL s.data.toList 45 s.size).toNat)) 128 0 72 else decL (s.size + 1) s [] 128 0 72) := by
      rw [decP, if_neg (by rw [hany]; decide)]
    have hh : ∀ mm, PureC Tryz.prog 122 [.string s] w0 mm (.int .i64 (lastL s.data.toList 45 s.size)) := fun mm => rhyphen_spec s (by omega) w0 mm
    generalize lastL s.data.toList 45 s.size = la at hat hP hh
    have hs0 : s.extract 0 s.size = s := by simp
    (refine c_sq fun k22 h22 => ?_)
    (refine c_sq fun k24 h24 => c_rg <| r_mv rfl rfl <| r_mv rfl rfl <| r_lS Tryz.underlying9 rfl rfl <| r_ltF rfl rfl rfl (by omega) <| r_nx h24 <| c_cF rfl <| c_ex <| WE.then_x <| WE.then_x <| WE.blk_x <| WE.then_n h7 <| c_sq fun k26 h26 => c_rg <| r_as rfl rfl <| r_nx h26 <| c_sq fun k28 h28 => c_rg <| r_as rfl rfl <| r_nx h28 ?_; rotate_left)
    refine WC.cut (α := Nat × List Int × (Option Addr × Nat)) (fun x => [(0, .string s), (5, SlR x.2.2 x.2.1), (6, .int .i64 x.1)]) (fun x => [OwnR x.2.2 x.2.1]) (fun x => decL (s.size + 1) (s.extract x.1 s.size) x.2.1 128 0 72 = decP s ∧ x.1 ≤ s.size ∧ s.size - x.1 + x.2.1.length ≤ s.size) ?_ ?_
    · (refine c_sq fun k30 h30 => c_rg <| r_mv rfl rfl ?_; rotate_left)
      refine WX.pure rfl rfl (hh _) rfl rfl ?_
      by_cases h0 : 0 < la
      · rw [if_pos h0] at hP
        obtain ⟨k, rfl⟩ : ∃ k : Nat, la = (k : Int) := ⟨la.toNat, by omega⟩
        (refine r_gtT rfl rfl rfl (by omega) <| r_nx h30 <| c_cT rfl <| c_sq fun k39 h39 => c_sq fun k41 h41 => c_rg <| r_as rfl rfl <| r_nx h41 <| c_bl ?_; rotate_left)
        refine WC.loop (α := Nat × (Option Addr × Nat)) (fun x => [(0, .string s), (5, SlR x.2 (asc (s.extract 0 x.1))), (7, .int .i64 x.1)]) (fun x => [OwnR x.2 (asc (s.extract 0 x.1))]) (fun x => x.1 ≤ k) (fun x => k - x.1) (0, (none, 0)) (by dsimp only; omega)
          ⟨rfl, by dsimp only; rw [show asc (s.extract 0 0) = [] from List.eq_nil_of_length_eq_zero (by rw [asc_length, ByteArray.size_extract]; omega)]; rfl, rfl, trivial⟩ (by dsimp only; rw [show asc (s.extract 0 0) = [] from List.eq_nil_of_length_eq_zero (by rw [asc_length, ByteArray.size_extract]; omega)]; exact Mem.nilOwn _ _) ?_
        rintro ⟨j, p⟩ hj
        dsimp only at hj ⊢
        have hlen : (asc (s.extract 0 j)).length = j := by rw [asc_length, ByteArray.size_extract]; omega
        by_cases hjl : j < k
        · have hv := (s.data.toList.getD j 0).toNat_lt
          have hnx : asc (s.extract 0 (j + 1)) = asc (s.extract 0 j) ++ [((s.data.toList.getD j 0).toNat : Int)] := by
            have g : ∀ m, m ≤ s.size → (s.extract 0 m).data.toList = s.data.toList.take m := fun m _ => by
              rw [ByteArray.data_extract, Array.toList_extract, List.extract_eq_take_drop]; simp
            unfold asc
            have hlt2 : j < s.data.toList.length := by simp; show j < s.size; omega
            rw [g _ (by omega), g _ (by omega), List.take_succ_eq_append_getElem hlt2, List.map_append]
            rw [List.getD_eq_getElem?_getD, List.getElem?_eq_getElem hlt2]
            rfl
          (refine c_sq fun k50 h50 => c_sq fun k52 h52 => c_rg <| r_mv rfl rfl <| r_mv rfl rfl ?_; rotate_left)
          refine WX.pure rfl rfl (hh _) rfl rfl ?_
          (refine r_ltT rfl rfl rfl (by omega) <| r_nx h52 <| c_cT rfl <| c_sk <| WE.then_n h50 <| c_sq fun k54 h54 => c_bl <| c_rg <| r_mv rfl rfl <| r_mv rfl rfl <| r_mv rfl rfl ?_; rotate_left)
          refine r_iS (v := s.data.toList.getD j 0) Tryz.underlying9 rfl rfl rfl (by omega) (byte_at s (by omega)) ?_
          (refine r_cv rfl (cv_int (k' := .i32) rfl Tryz.underlying21 (w32 (by omega))) rfl <| r_bo Tryz.underlying47 rfl (fun _ => by kernel_rfl) rfl rfl rfl (fun _ => ?_); rotate_left)
          refine r_am (xs := asc (s.extract 0 j)) (ys := [((s.data.toList.getD j 0).toNat : Int)]) 1 (z := .int .i32 0) (by_ := 4) (f := (.int .i32 ·)) Tryz.underlying47 (by kernel_rfl) rfl rfl rfl rfl (Rd.own 0 rfl) rfl (fun _ => rfl) (by omega) rfl (fun p2 _ => ?_)
          rw [← hnx]
          (refine r_as rfl rfl <| r_nl <| WE.blk_n <| WE.then_n h54 <| c_rg <| r_mv rfl rfl <| r_ad rfl rfl rfl (wadd64 (by omega)) <| r_as rfl rfl <| r_nl ?_; rotate_left)
          exact WE.back (j + 1, p2) (by dsimp only; omega) (by dsimp only; omega) ⟨rfl, rfl, rfl, trivial⟩ (Mem.pick [1] (by decide) rfl)
        · have hjk : j = k := by omega
          (refine c_sq fun k49 h49 => c_sq fun k51 h51 => c_rg <| r_mv rfl rfl <| r_mv rfl rfl ?_; rotate_left)
          refine WX.pure rfl rfl (hh _) rfl rfl ?_
          (refine r_ltF rfl rfl rfl (by omega) <| r_nx h51 <| c_cF rfl <| c_ex <| WE.then_x <| WE.then_x <| WE.blk_x <| WE.then_n h39 <| c_rg <| r_mv rfl rfl ?_; rotate_left)
          refine WX.pure rfl rfl (hh _) rfl rfl ?_
          (refine r_ad rfl rfl rfl (wadd64 (by omega)) <| r_as rfl rfl <| r_nl ?_; rotate_left)
          exact WE.met (k + 1, asc (s.extract 0 j), p) ⟨by dsimp only; rw [hP, hjk]; rfl, by dsimp only; omega, by dsimp only; omega⟩ ⟨rfl, rfl, congrArg (fun z => some (Value.int .i64 z)) (by dsimp only; omega), trivial⟩ Mem.keep
      · rw [if_neg h0] at hP
        (refine r_gtF rfl rfl rfl (by omega) <| r_nx h30 <| c_cF rfl <| c_sk ?_; rotate_left)
        exact WE.met (0, [], (none, 0)) ⟨by dsimp only; rw [hs0, hP], by dsimp only; omega, by simp⟩ ⟨rfl, rfl, rfl, trivial⟩ (Mem.nilOwn _ _)
    · rintro ⟨a1, l0, p⟩ ⟨e, ha1, hz⟩
      dsimp only at e ha1 hz ⊢
      (refine c_sq fun k36 h36 => c_rg <| r_as rfl rfl <| r_nx h36 <| c_sq fun k38 h38 => c_rg <| r_as rfl rfl <| r_nx h38 <| c_sq fun k40 h40 => c_rg <| r_as rfl rfl <| r_nx h40 <| c_sq fun k42 h42 => c_bl ?_; rotate_left)
      refine WC.loop (α := Nat × Nat × List Int × Int × Int × Int × (Option Addr × Nat)) (fun x => [(0, .string s), (6, .int .i64 x.2.1), (5, SlR x.2.2.2.2.2.2 x.2.2.1), (8, .int .i64 x.2.2.2.1), (9, .int .i64 x.2.2.2.2.1), (10, .int .i64 x.2.2.2.2.2.1)])
        (fun x => [OwnR x.2.2.2.2.2.2 x.2.2.1]) (fun x => decL x.1 (s.extract x.2.1 s.size) x.2.2.1 x.2.2.2.1 x.2.2.2.2.1 x.2.2.2.2.2.1 = decP s ∧ x.2.1 ≤ s.size ∧ s.size - x.2.1 < x.1 ∧ s.size - x.2.1 + x.2.2.1.length ≤ s.size ∧ (128 ≤ x.2.2.2.1 ∧ x.2.2.2.1 ≤ 1114111) ∧ (0 ≤ x.2.2.2.2.1 ∧ x.2.2.2.2.1 ≤ x.2.2.1.length) ∧ (0 ≤ x.2.2.2.2.2.1 ∧ x.2.2.2.2.2.1 ≤ 1000))
        (fun x => s.size - x.2.1) (s.size + 1, a1, l0, 128, 0, 72, p) ⟨e, ha1, by dsimp only; omega, hz, by dsimp only; omega, by dsimp only; omega, by dsimp only; omega⟩ ⟨rfl, rfl, rfl, rfl, rfl, rfl, trivial⟩ Mem.keep ?_
      clear e hz ha1 a1 l0 p hP hh
      rintro ⟨f, at_, l, n, i, bias, p⟩ ⟨e, h0, h1, h2, h3, h4, h5⟩
      dsimp only at e h0 h1 h2 h3 h4 h5 ⊢
      have hsz : (s.extract at_ s.size).size = s.size - at_ := by rw [ByteArray.size_extract]; omega
      cases f with
      | zero => omega
      | succ f =>
        rw [decL, hsz] at e
        by_cases hz : s.size - at_ = 0
        · rw [if_pos hz] at e
          (refine c_sq fun k66 h66 => c_sq fun k68 h68 => c_rg <| r_mv rfl rfl <| r_mv rfl rfl <| r_lS Tryz.underlying9 rfl rfl <| r_ltF rfl rfl rfl (by omega) <| r_nx h68 <| c_cF rfl <| c_ex <| WE.then_x <| WE.then_x <| WE.blk_x <| WE.then_n h42 <| c_sq fun k70 h70 => c_rg <| r_mv rfl rfl <| r_as rfl rfl <| r_as rfl rfl <| r_nx h70 <| c_rt ?_; rotate_left)
          exact WE.ret2 p rfl rfl rfl rfl (by rw [← e]; rfl) trivial (by rw [← e]; exact Mem.keep)
        · rw [if_neg hz] at e
          have hee : ∀ b, (s.extract at_ s.size).extract b (s.size - at_) = s.extract (at_ + b) s.size := fun b => by
            have := ext_ext s at_ b h0
            rwa [hsz] at this
          rw [hee] at e
          obtain ⟨r1, r2⟩ := readP_bd (s.extract at_ s.size) bias h5
          rw [hsz] at r2
          have hw := fun mm => rweighted_spec s at_ i bias hs h0 (by omega) h5 w0 mm
          have hrp : readL bias (s.data.toList.drop at_) 0 0 1 = readP (s.extract at_ s.size) bias := by unfold readP; rw [ext_toList]
          have hsh := readL_shift bias i h4.1 h5 (s.data.toList.drop at_) 0 0 1 (by omega) (by omega)
          rw [Int.add_zero, hrp] at hsh
          rw [hsh] at hw
          generalize (readP (s.extract at_ s.size) bias).1 = q at e r1 hw
          generalize (readP (s.extract at_ s.size) bias).2 = mn at e r2 hw
          clear hsh hrp
          by_cases c1 : mn = 0 ∨ 1099511627776 < i + q
          · rw [if_pos c1] at e hw
            simp only [if_true] at hw
            (refine c_sq fun k86 h86 => c_sq fun k88 h88 => c_rg <| r_mv rfl rfl <| r_mv rfl rfl <| r_lS Tryz.underlying9 rfl rfl <| r_ltT rfl rfl rfl (by omega) <| r_nx h88 <| c_cT rfl <| c_sk <| WE.then_n h86 <| c_bl <| c_sq fun k90 h90 => c_rg <| r_mv rfl rfl <| r_mv rfl rfl <| r_mv rfl rfl <| r_mv rfl rfl ?_; rotate_left)
            refine WX.pure rfl rfl (hw _) rfl rfl ?_
            (refine r_mv rfl rfl <| r_ex rfl rfl rfl <| r_ex rfl rfl rfl <| r_as rfl rfl <| r_as rfl rfl <| r_nx h90 <| c_sq fun k92 h92 => c_sq fun k94 h94 => c_rg <| r_mv rfl rfl <| r_eqT rfl rfl rfl (by omega) <| r_nx h94 <| c_cT rfl <| c_sq fun k96 h96 => c_rg <| r_as rfl rfl <| r_as rfl rfl <| r_nx h96 <| c_rt <| WE.then_r <| WE.blk_r <| WE.then_r <| WE.blk_r <| WE.then_r ?_; rotate_left)
            exact WE.ret2 (none, 0) rfl rfl rfl rfl (by rw [← e]; rfl) trivial (by rw [← e]; exact Mem.drop)
          · rw [if_neg c1] at e hw
            simp only at hw
            rw [if_neg (by omega)] at hw
            have d0 : 0 ≤ (i + q) / ((l.length : Int) + 1) := Int.ediv_nonneg (by omega) (by omega)
            have d1 : (i + q) / ((l.length : Int) + 1) ≤ i + q := Int.ediv_le_self _ (by omega)
            have d2 : 0 ≤ (i + q) % ((l.length : Int) + 1) := Int.emod_nonneg _ (by omega)
            have d3 : (i + q) % ((l.length : Int) + 1) < (l.length : Int) + 1 := Int.emod_lt_of_pos _ (by omega)
            have hA := adaptP_bd (delta := q) (many := (l.length : Int) + 1) (by omega) (decide (i = 0))
            have ha : ∀ m1, PureC Tryz.prog 106 [.int .i64 (i + q - i), .int .i64 ((l.length : Int) + 1), .bool (decide (i = 0))] w0 m1 (.int .i64 (adaptP q ((l.length : Int) + 1) (decide (i = 0)))) := fun m1 => by
              rw [show i + q - i = q by omega]
              exact radapt_spec q ((l.length : Int) + 1) (decide (i = 0)) (by omega) w0 m1
            generalize adaptP q ((l.length : Int) + 1) (decide (i = 0)) = bias2 at e hA ha
            (refine c_sq fun k95 h95 => c_sq fun k97 h97 => c_rg <| r_mv rfl rfl <| r_mv rfl rfl <| r_lS Tryz.underlying9 rfl rfl <| r_ltT rfl rfl rfl (by omega) <| r_nx h97 <| c_cT rfl <| c_sk <| WE.then_n h95 <| c_bl <| c_sq fun k99 h99 => c_rg <| r_mv rfl rfl <| r_mv rfl rfl <| r_mv rfl rfl <| r_mv rfl rfl ?_; rotate_left)
            refine WX.pure rfl rfl (hw _) rfl rfl ?_
            by_cases i0 : i = 0
            · rw [decide_eq_true i0] at ha
              (refine r_mv rfl rfl <| r_ex rfl rfl rfl <| r_ex rfl rfl rfl <| r_as rfl rfl <| r_as rfl rfl <| r_nx h99 <| c_sq fun k103 h103 => c_sq fun k105 h105 => c_rg <| r_mv rfl rfl <| r_eqF rfl rfl rfl (by omega) <| r_nx h105 <| c_cF rfl <| c_sk <| WE.then_n h103 <| c_sq fun k107 h107 => c_rg <| r_mv rfl rfl <| r_ls Tryz.underlying47 rfl rfl <| r_ad rfl rfl rfl (wadd64 (by omega)) <| r_as rfl rfl <| r_nx h107 <| c_sq fun k109 h109 => c_rg <| r_mv rfl rfl <| r_mv rfl rfl <| r_su rfl rfl rfl (wsub64 (by omega)) <| r_mv rfl rfl <| r_mv rfl rfl <| r_eqT rfl rfl rfl (by omega) ?_; rotate_left)
              refine WX.pure rfl rfl (ha _) rfl rfl ?_
              (refine r_as rfl rfl <| r_nx h109 <| c_sq fun k111 h111 => c_rg <| r_mv rfl rfl <| r_mv rfl rfl <| r_mv rfl rfl <| r_qu rfl rfl rfl (by omega) (wquo64 (by omega)) <| r_ad rfl rfl rfl (wadd64 (by omega)) <| r_as rfl rfl <| r_nx h111 <| c_sq fun k113 h113 => c_rg <| r_mv rfl rfl <| r_mv rfl rfl <| r_re rfl rfl rfl (by omega) (wrem (by omega)) <| r_as rfl rfl <| r_nx h113 <| c_sq fun k115 h115 => c_sq fun k117 h117 => c_rg <| r_mv rfl rfl ?_; rotate_left)
              generalize (i + q) / ((l.length : Int) + 1) = dv at e d0 d1 ⊢
              generalize (i + q) % ((l.length : Int) + 1) = k at e d2 d3 ⊢
              obtain ⟨kn, rfl⟩ : ∃ kn : Nat, k = (kn : Int) := ⟨k.toNat, by omega⟩
              rw [Int.toNat_natCast] at e
              by_cases v1 : 1114111 < n + dv
              · rw [if_pos (.inl v1)] at e
                (refine r_gtT rfl rfl rfl (by omega) <| r_mv rfl rfl <| r_sk rfl rfl <| r_sk rfl rfl <| r_sk rfl rfl <| r_sk rfl rfl <| r_pT rfl rfl rfl <| r_nx h117 <| c_cT rfl <| c_sq fun k134 h134 => c_rg <| r_as rfl rfl <| r_as rfl rfl <| r_nx h134 <| c_rt <| WE.then_r <| WE.blk_r <| WE.then_r <| WE.blk_r <| WE.then_r ?_; rotate_left)
                exact WE.ret2 (none, 0) rfl rfl rfl rfl (by rw [← e]; rfl) trivial (by rw [← e]; exact Mem.drop)
              · have hsc : ∀ mm, PureC Tryz.prog 69 [.int .i32 (n + dv)] w0 mm (.bool (decide (ScP (n + dv)))) := fun mm => scalar_spec (n + dv) w0 mm
                by_cases v2 : ScP (n + dv)
                · rw [if_neg (fun h => h.elim v1 (fun h => h v2))] at e
                  rw [decide_eq_true v2] at hsc
                  (refine r_gtF rfl rfl rfl (by omega) <| r_mv rfl rfl <| r_mv rfl rfl <| r_cv rfl (cv_int (k' := .i32) rfl Tryz.underlying21 (w32 (by omega))) rfl ?_; rotate_left)
                  refine WX.pure rfl rfl (hsc _) rfl rfl ?_
                  (refine r_no rfl rfl rfl <| r_pF rfl rfl rfl <| r_nx h117 <| c_cF rfl <| c_sk <| WE.then_n h115 <| c_sq fun k137 h137 => c_rg <| r_mv rfl rfl <| r_mv rfl rfl <| r_mv rfl rfl <| r_cv rfl (cv_int (k' := .i32) rfl Tryz.underlying21 (w32 (by omega))) rfl ?_; rotate_left)
                  refine WX.room 0 rfl (fun hpc => ?_)
                  refine WX.call (m1 := []) (m2 := _) rfl rfl rfl (rput_spec p.1 p.2 l kn (n + dv) (by omega) (by omega) hpc _ _ (Rd.own 0 rfl)) rfl rfl (fun p2 _ => ?_)
                  have hl2 := insL_length l kn (n + dv) (by omega)
                  (refine r_as rfl rfl <| r_nx h137 <| c_sq fun k143 h143 => c_rg <| r_mv rfl rfl <| r_ad rfl rfl rfl (wadd64 (by omega)) <| r_as rfl rfl <| r_nx h143 <| c_rg <| r_mv rfl rfl <| r_as rfl rfl <| r_nl <| WE.blk_n ?_; rotate_left)
                  exact WE.back (f, at_ + mn.toNat, insL l kn (n + dv), n + dv, (kn : Int) + 1, bias2, p2) ⟨e, by dsimp only; omega, by dsimp only; omega, by dsimp only; rw [hl2]; omega, by dsimp only; omega, by dsimp only; rw [hl2]; omega, hA⟩ (by dsimp only; omega)
                    ⟨rfl, congrArg (fun z => some (Value.int .i64 z)) (by dsimp only; omega), rfl, rfl, rfl, rfl, trivial⟩ (Mem.pick [0] (by decide) rfl)
                · rw [if_pos (.inr v2)] at e
                  rw [decide_eq_false v2] at hsc
                  (refine r_gtF rfl rfl rfl (by omega) <| r_mv rfl rfl <| r_mv rfl rfl <| r_cv rfl (cv_int (k' := .i32) rfl Tryz.underlying21 (w32 (by omega))) rfl ?_; rotate_left)
                  refine WX.pure rfl rfl (hsc _) rfl rfl ?_
                  (refine r_no rfl rfl rfl <| r_pF rfl rfl rfl <| r_nx h117 <| c_cT rfl <| c_sq fun k137 h137 => c_rg <| r_as rfl rfl <| r_as rfl rfl <| r_nx h137 <| c_rt <| WE.then_r <| WE.blk_r <| WE.then_r <| WE.blk_r <| WE.then_r ?_; rotate_left)
                  exact WE.ret2 (none, 0) rfl rfl rfl rfl (by rw [← e]; rfl) trivial (by rw [← e]; exact Mem.drop)
            · rw [decide_eq_false i0] at ha
              (refine r_mv rfl rfl <| r_ex rfl rfl rfl <| r_ex rfl rfl rfl <| r_as rfl rfl <| r_as rfl rfl <| r_nx h99 <| c_sq fun k103 h103 => c_sq fun k105 h105 => c_rg <| r_mv rfl rfl <| r_eqF rfl rfl rfl (by omega) <| r_nx h105 <| c_cF rfl <| c_sk <| WE.then_n h103 <| c_sq fun k107 h107 => c_rg <| r_mv rfl rfl <| r_ls Tryz.underlying47 rfl rfl <| r_ad rfl rfl rfl (wadd64 (by omega)) <| r_as rfl rfl <| r_nx h107 <| c_sq fun k109 h109 => c_rg <| r_mv rfl rfl <| r_mv rfl rfl <| r_su rfl rfl rfl (wsub64 (by omega)) <| r_mv rfl rfl <| r_mv rfl rfl <| r_eqF rfl rfl rfl (by omega) ?_; rotate_left)
              refine WX.pure rfl rfl (ha _) rfl rfl ?_
              (refine r_as rfl rfl <| r_nx h109 <| c_sq fun k111 h111 => c_rg <| r_mv rfl rfl <| r_mv rfl rfl <| r_mv rfl rfl <| r_qu rfl rfl rfl (by omega) (wquo64 (by omega)) <| r_ad rfl rfl rfl (wadd64 (by omega)) <| r_as rfl rfl <| r_nx h111 <| c_sq fun k113 h113 => c_rg <| r_mv rfl rfl <| r_mv rfl rfl <| r_re rfl rfl rfl (by omega) (wrem (by omega)) <| r_as rfl rfl <| r_nx h113 <| c_sq fun k115 h115 => c_sq fun k117 h117 => c_rg <| r_mv rfl rfl ?_; rotate_left)
              generalize (i + q) / ((l.length : Int) + 1) = dv at e d0 d1 ⊢
              generalize (i + q) % ((l.length : Int) + 1) = k at e d2 d3 ⊢
              obtain ⟨kn, rfl⟩ : ∃ kn : Nat, k = (kn : Int) := ⟨k.toNat, by omega⟩
              rw [Int.toNat_natCast] at e
              by_cases v1 : 1114111 < n + dv
              · rw [if_pos (.inl v1)] at e
                (refine r_gtT rfl rfl rfl (by omega) <| r_mv rfl rfl <| r_sk rfl rfl <| r_sk rfl rfl <| r_sk rfl rfl <| r_sk rfl rfl <| r_pT rfl rfl rfl <| r_nx h117 <| c_cT rfl <| c_sq fun k134 h134 => c_rg <| r_as rfl rfl <| r_as rfl rfl <| r_nx h134 <| c_rt <| WE.then_r <| WE.blk_r <| WE.then_r <| WE.blk_r <| WE.then_r ?_; rotate_left)
                exact WE.ret2 (none, 0) rfl rfl rfl rfl (by rw [← e]; rfl) trivial (by rw [← e]; exact Mem.drop)
              · have hsc : ∀ mm, PureC Tryz.prog 69 [.int .i32 (n + dv)] w0 mm (.bool (decide (ScP (n + dv)))) := fun mm => scalar_spec (n + dv) w0 mm
                by_cases v2 : ScP (n + dv)
                · rw [if_neg (fun h => h.elim v1 (fun h => h v2))] at e
                  rw [decide_eq_true v2] at hsc
                  (refine r_gtF rfl rfl rfl (by omega) <| r_mv rfl rfl <| r_mv rfl rfl <| r_cv rfl (cv_int (k' := .i32) rfl Tryz.underlying21 (w32 (by omega))) rfl ?_; rotate_left)
                  refine WX.pure rfl rfl (hsc _) rfl rfl ?_
                  (refine r_no rfl rfl rfl <| r_pF rfl rfl rfl <| r_nx h117 <| c_cF rfl <| c_sk <| WE.then_n h115 <| c_sq fun k137 h137 => c_rg <| r_mv rfl rfl <| r_mv rfl rfl <| r_mv rfl rfl <| r_cv rfl (cv_int (k' := .i32) rfl Tryz.underlying21 (w32 (by omega))) rfl ?_; rotate_left)
                  refine WX.room 0 rfl (fun hpc => ?_)
                  refine WX.call (m1 := []) (m2 := _) rfl rfl rfl (rput_spec p.1 p.2 l kn (n + dv) (by omega) (by omega) hpc _ _ (Rd.own 0 rfl)) rfl rfl (fun p2 _ => ?_)
                  have hl2 := insL_length l kn (n + dv) (by omega)
                  (refine r_as rfl rfl <| r_nx h137 <| c_sq fun k143 h143 => c_rg <| r_mv rfl rfl <| r_ad rfl rfl rfl (wadd64 (by omega)) <| r_as rfl rfl <| r_nx h143 <| c_rg <| r_mv rfl rfl <| r_as rfl rfl <| r_nl <| WE.blk_n ?_; rotate_left)
                  exact WE.back (f, at_ + mn.toNat, insL l kn (n + dv), n + dv, (kn : Int) + 1, bias2, p2) ⟨e, by dsimp only; omega, by dsimp only; omega, by dsimp only; rw [hl2]; omega, by dsimp only; omega, by dsimp only; rw [hl2]; omega, hA⟩ (by dsimp only; omega)
                    ⟨rfl, congrArg (fun z => some (Value.int .i64 z)) (by dsimp only; omega), rfl, rfl, rfl, rfl, trivial⟩ (Mem.pick [0] (by decide) rfl)
                · rw [if_pos (.inr v2)] at e
                  rw [decide_eq_false v2] at hsc
                  (refine r_gtF rfl rfl rfl (by omega) <| r_mv rfl rfl <| r_mv rfl rfl <| r_cv rfl (cv_int (k' := .i32) rfl Tryz.underlying21 (w32 (by omega))) rfl ?_; rotate_left)
                  refine WX.pure rfl rfl (hsc _) rfl rfl ?_
                  (refine r_no rfl rfl rfl <| r_pF rfl rfl rfl <| r_nx h117 <| c_cT rfl <| c_sq fun k137 h137 => c_rg <| r_as rfl rfl <| r_as rfl rfl <| r_nx h137 <| c_rt <| WE.then_r <| WE.blk_r <| WE.then_r <| WE.blk_r <| WE.then_r ?_; rotate_left)
                  exact WE.ret2 (none, 0) rfl rfl rfl rfl (by rw [← e]; rfl) trivial (by rw [← e]; exact Mem.drop)
end Go.Proofs.YtkggplnigjlegaaGreatDoor

/- The document's Punycode told: numbers by digits, a list of code points: the walks. -/
set_option linter.unusedVariables false
namespace Go.Proofs.YtkggplnigjlegaaGreatDoor
open Go.RowKit Go.Gp

set_option maxRecDepth 100000 in
theorem rtell_spec (q bias : Int) (hq : 0 ≤ q ∧ q ≤ 4000000000000000000) (hb : 0 ≤ bias ∧ bias ≤ 1000) (w0 : World) (m0 : List Res) :
    Ct (α := Option Addr × Nat) Tryz.prog 105 [.int .i64 q, .int .i64 bias] w0 [] m0 (fun _ => True) (fun p => .slice p.1 (numP q bias).length p.2) (fun p => [OwnB p (numP q bias)]) := by
  have hf : (10 : Int) ^ 19 = 10000000000000000000 := by decide +kernel
  refine Ct.of Tryz.func105 rfl (by kernel_rfl) rfl ?_
  (refine c_sq fun k8 h8 => c_rg <| r_as rfl rfl <| r_nx h8 <| c_sq fun k10 h10 => c_rg <| r_as rfl rfl <| r_nx h10 <| c_sq fun k12 h12 => c_rg <| r_as rfl rfl <| r_nx h12 <| c_sq fun k14 h14 => c_bl ?_; rotate_left)
  refine WC.loop (α := Nat × Int × Int × List UInt8 × (Option Addr × Nat)) (fun x => [(0, .int .i64 x.2.1), (1, .int .i64 bias), (6, .int .i64 x.2.2.1), (5, .slice x.2.2.2.2.1 x.2.2.2.1.length x.2.2.2.2.2)])
    (fun x => [OwnB x.2.2.2.2 x.2.2.2.1])
    (fun x => x.2.2.2.1 ++ numL bias (x.1 + 1) x.2.1 x.2.2.1 = numP q bias ∧ (0 ≤ x.2.1 ∧ x.2.1 ≤ 4000000000000000000) ∧ x.2.1 < 10 ^ x.1 ∧ (0 ≤ x.2.2.1 ∧ x.2.2.1 + 36 * x.1 ≤ 720) ∧ x.2.2.2.1.length + x.1 ≤ 19) (fun x => x.1)
    (19, q, 36, [], (none, 0)) ⟨rfl, by dsimp only; omega, by dsimp only; omega, by dsimp only; omega, by simp⟩ ⟨rfl, rfl, rfl, rfl, trivial⟩ (Mem.nilOwn _ _) ?_
  rintro ⟨f, q1, k, acc, p⟩ ⟨e, h1, h2, h3, h4⟩
  dsimp only at e h1 h2 h3 h4 ⊢
  have ht := thrP_bd k bias
  (refine c_sq fun k27 h27 => c_sq fun k29 h29 => c_rg <| r_mv rfl rfl <| r_mv rfl rfl <| r_mv rfl rfl ?_; rotate_left)
  refine WX.pure rfl rfl (rthr_spec k bias (by omega) _ _) rfl rfl ?_
  by_cases hlt : q1 < thrP k bias
  · rw [numL, if_pos hlt] at e
    (refine r_geF rfl rfl rfl (by omega) <| r_nx h29 <| c_cF rfl <| c_ex <| WE.then_x <| WE.then_x <| WE.blk_x <| WE.then_n h14 <| c_sq fun k34 h34 => c_rg <| r_mv rfl rfl <| r_mv rfl rfl ?_; rotate_left)
    refine WX.pure rfl rfl (rdigit_spec q1 (by omega) (by omega) _ _) rfl rfl ?_
    (refine r_bo Tryz.underlying75 rfl (fun _ => by kernel_rfl) rfl rfl rfl (fun _ => ?_); rotate_left)
    refine r_am (xs := acc) (ys := [dig q1]) 1 (z := .int .u8 0) (by_ := 1) (f := fun b : UInt8 => .int .u8 b.toNat) Tryz.underlying75 (by kernel_rfl) rfl rfl rfl rfl (Rd.own 0 rfl) rfl (fun _ => rfl) (by omega) rfl (fun p2 _ => ?_)
    (refine r_as rfl rfl <| r_nx h34 <| c_rt ?_; rotate_left)
    exact WE.ret1 p2 rfl rfl (by rw [← e]; rfl) trivial (by rw [← e]; exact Mem.pick [1] (by decide) rfl)
  · cases f with
    | zero => simp only [Int.pow_zero] at h2; omega
    | succ f =>
      have r1 : 0 ≤ (q1 - thrP k bias) % (36 - thrP k bias) := Int.emod_nonneg _ (by omega)
      have r2 : (q1 - thrP k bias) % (36 - thrP k bias) < 36 - thrP k bias := Int.emod_lt_of_pos _ (by omega)
      have r3 : 0 ≤ (q1 - thrP k bias) / (36 - thrP k bias) := Int.ediv_nonneg (by omega) (by omega)
      have r4 : (q1 - thrP k bias) / (36 - thrP k bias) < 10 ^ f := by
        rw [Int.pow_succ] at h2
        refine Int.ediv_lt_of_lt_mul (by omega) ?_
        have h0 : (0 : Int) < 10 ^ f := Int.pow_pos (by decide)
        have : 10 ^ f * 10 ≤ 10 ^ f * (36 - thrP k bias) := Int.mul_le_mul_of_nonneg_left (by omega) (by omega)
        omega
      have r5 : (q1 - thrP k bias) / (36 - thrP k bias) ≤ q1 - thrP k bias := Int.ediv_le_self _ (by omega)
      (refine r_geT rfl rfl rfl (by omega) <| r_nx h29 <| c_cT rfl <| c_sk <| WE.then_n h27 <| c_bl <| c_sq fun k44 h44 => c_rg <| r_mv rfl rfl <| r_mv rfl rfl ?_; rotate_left)
      refine WX.pure rfl rfl (rthr_spec k bias (by omega) _ _) rfl rfl ?_
      (refine r_as rfl rfl <| r_nx h44 <| c_sq fun k46 h46 => c_rg <| r_mv rfl rfl <| r_mv rfl rfl <| r_mv rfl rfl <| r_mv rfl rfl <| r_su rfl rfl rfl (wsub64 (by omega)) <| r_mv rfl rfl <| r_su rfl rfl rfl (wsub64 (by omega)) <| r_re rfl rfl rfl (by omega) (wrem (by omega)) <| r_ad rfl rfl rfl (wadd64 (by omega)) ?_; rotate_left)
      refine WX.pure rfl rfl (rdigit_spec (thrP k bias + (q1 - thrP k bias) % (36 - thrP k bias)) (by omega) (by omega) _ _) rfl rfl ?_
      (refine r_bo Tryz.underlying75 rfl (fun _ => by kernel_rfl) rfl rfl rfl (fun _ => ?_); rotate_left)
      refine r_am (xs := acc) (ys := [dig (thrP k bias + (q1 - thrP k bias) % (36 - thrP k bias))]) 1 (z := .int .u8 0) (by_ := 1) (f := fun b : UInt8 => .int .u8 b.toNat) Tryz.underlying75 (by kernel_rfl) rfl rfl rfl rfl (Rd.own 0 rfl) rfl (fun _ => rfl) (by omega) rfl (fun p2 _ => ?_)
      (refine r_as rfl rfl <| r_nx h46 <| c_sq fun k51 h51 => c_rg <| r_mv rfl rfl <| r_mv rfl rfl <| r_su rfl rfl rfl (wsub64 (by omega)) <| r_mv rfl rfl <| r_su rfl rfl rfl (wsub64 (by omega)) <| r_qu rfl rfl rfl (by omega) (wquo64 (by omega)) <| r_as rfl rfl <| r_nx h51 <| c_rg <| r_mv rfl rfl <| r_ad rfl rfl rfl (wadd64 (by omega)) <| r_as rfl rfl <| r_nl <| WE.blk_n ?_; rotate_left)
      exact WE.back (f, (q1 - thrP k bias) / (36 - thrP k bias), k + 36, acc ++ [dig (thrP k bias + (q1 - thrP k bias) % (36 - thrP k bias))], p2) ⟨by
        dsimp only
        rw [numL, if_neg hlt] at e
        rw [List.append_assoc]
        exact e, by dsimp only; omega, r4, by dsimp only; omega, by simp; omega⟩ (by dsimp only; omega) ⟨rfl, rfl, rfl, rfl, trivial⟩ (Mem.pick [1] (by decide) rfl)

/-- string(b). -/
theorem conv_bytes {A : Option Addr} {c : Nat} {l : List UInt8} {w0 : World} {m : List Res} (hA : Rd w0 m A (bys l)) (w : World) (hw : Mem w0 m w) : (convert 75 9 (.slice A l.length c)).run Tryz.prog w = .ok (.string (strOf l)) w := by
  unfold Rd at hA
  cases A with
  | none =>
    have : l = [] := by
      cases l with
      | nil => rfl
      | cons x r => obtain ⟨a, h, _⟩ := hA w hw 0 (.int .u8 x.toNat) rfl; cases h
    subst this
    exact Go.Lib.run_convert_nil_bytes w _ _ 5 _ Tryz.underlying75 Tryz.underlying5 Tryz.underlying9
  | some a =>
    exact run_convert_bytes_back w _ _ 5 a c l Tryz.underlying75 Tryz.underlying5 Tryz.underlying9 (fun j hj => by
      obtain ⟨a', h1, h2⟩ := hA w hw j (.int .u8 l[j].toNat) (by simp [hj])
      injection h1 with h1
      subst h1
      exact h2)

set_option maxRecDepth 100000 in
theorem rencode_spec (A : Option Addr) (c : Nat) (l : List Int) (hn : l.length ≤ 65536) (hl : Sc l) (w0 : World) (m0 : List Res) (hA : Rd w0 m0 A (runes l)) :
    PureC Tryz.prog 74 [.slice A l.length c] w0 m0 (.tuple #[.string (strOf (encP l)), .int .i64 0]) := by
  have hb32 : ∀ x ∈ l, -2147483648 ≤ x ∧ x ≤ 2147483647 := fun x hx => by have := (hl x hx).1; omega
  refine Ct.of Tryz.func74 rfl (by kernel_rfl) rfl ?_
  (refine c_sq fun k10 h10 => c_rg <| r_as rfl rfl <| r_as rfl rfl <| r_nx h10 <| c_sq fun k12 h12 => c_sq fun k14 h14 => c_rg <| r_mv rfl rfl <| r_ls Tryz.underlying47 rfl rfl <| r_gtF rfl rfl rfl (by omega) <| r_nx h14 <| c_cF rfl <| c_sk <| WE.then_n h12 <| c_sq fun k16 h16 => c_rg <| r_as rfl rfl <| r_nx h16 <| c_sq fun k18 h18 => c_sq fun k20 h20 => c_rg <| r_as rfl rfl <| r_nx h20 <| c_bl ?_; rotate_left)
  refine WC.loop (α := Nat × (Option Addr × Nat)) (fun x => [(0, .slice A l.length c), (5, .int .i64 x.1), (4, .slice x.2.1 (basics (l.take x.1)).length x.2.2)]) (fun x => [OwnB x.2 (basics (l.take x.1))]) (fun x => x.1 ≤ l.length ∧ (basics (l.take x.1)).length ≤ x.1) (fun x => l.length - x.1) (0, (none, 0)) ⟨by simp, by simp [basics]⟩ ⟨rfl, rfl, rfl, trivial⟩ (Mem.nilOwn _ _) ?_
  rintro ⟨i, p⟩ ⟨hi, hbl⟩
  dsimp only at hi hbl ⊢
  by_cases hlt : i < l.length
  · have hc := hl.getD hlt
    have hsc : ∀ mm, PureC Tryz.prog 69 [.int .i32 (l.getD i 0)] w0 mm (.bool true) := fun mm => by have := scalar_spec (l.getD i 0) w0 mm; rwa [decide_eq_true hc] at this
    have hs := basics_snoc (l.take i) (l.getD i 0)
    rw [← take_next hlt] at hs
    (refine c_sq fun k31 h31 => c_sq fun k33 h33 => c_rg <| r_mv rfl rfl <| r_mv rfl rfl <| r_ls Tryz.underlying47 rfl rfl <| r_ltT rfl rfl rfl (by omega) <| r_nx h33 <| c_cT rfl <| c_sk <| WE.then_n h31 <| c_sq fun k35 h35 => c_bl <| c_sq fun k37 h37 => c_sq fun k39 h39 => c_rg <| r_mv rfl rfl <| r_mv rfl rfl <| r_im (hA.app _) Tryz.underlying47 (by kernel_rfl) rfl rfl rfl rfl (by omega) (by omega) <| r_li (i) (hA.app _) Tryz.underlying21 rfl rfl rfl (by omega) ?_; rotate_left)
    refine WX.pure rfl rfl (hsc _) rfl rfl ?_
    by_cases hc2 : l.getD i 0 < 128
    · rw [if_pos hc2] at hs
      have hb := b8_toNat hc.1.1 (by omega)
      (refine r_no rfl rfl rfl <| r_nx h39 <| c_cF rfl <| c_sk <| WE.then_n h37 <| c_sq fun k44 h44 => c_rg <| r_mv rfl rfl <| r_mv rfl rfl <| r_im (hA.app _) Tryz.underlying47 (by kernel_rfl) rfl rfl rfl rfl (by omega) (by omega) <| r_li (i) (hA.app _) Tryz.underlying21 rfl rfl rfl (by omega) <| r_ltT rfl rfl rfl (by omega) <| r_nx h44 <| c_cT rfl <| c_rg <| r_mv rfl rfl <| r_mv rfl rfl <| r_mv rfl rfl <| r_im (hA.app _) Tryz.underlying47 (by kernel_rfl) rfl rfl rfl rfl (by omega) (by omega) <| r_li (i) (hA.app _) Tryz.underlying21 rfl rfl rfl (by omega) <| r_cv rfl (cv_int (k' := .u8) rfl Tryz.underlying5 (w8 (by omega))) rfl <| r_bo Tryz.underlying75 rfl (fun _ => by kernel_rfl) rfl rfl rfl (fun _ => ?_); rotate_left)
      rw [← hb]
      (rotate_left)
      refine r_am (xs := basics (l.take i)) (ys := [b8 (l.getD i 0)]) 1 (z := .int .u8 0) (by_ := 1) (f := fun b : UInt8 => .int .u8 b.toNat) Tryz.underlying75 (by kernel_rfl) rfl rfl rfl rfl (Rd.own 0 rfl) rfl (fun _ => rfl) (by omega) rfl (fun p2 _ => ?_)
      rw [← hs]
      (refine r_as rfl rfl <| r_nl <| WE.blk_n <| WE.then_n h35 <| c_rg <| r_mv rfl rfl <| r_ad rfl rfl rfl (wadd64 (by omega)) <| r_as rfl rfl <| r_nl ?_; rotate_left)
      exact WE.back (i + 1, p2) ⟨by dsimp only; omega, by dsimp only; rw [hs]; simp; omega⟩ (by dsimp only; omega) ⟨rfl, rfl, rfl, trivial⟩ (Mem.pick [1] (by decide) rfl)
    · rw [if_neg hc2] at hs
      (refine r_no rfl rfl rfl <| r_nx h39 <| c_cF rfl <| c_sk <| WE.then_n h37 <| c_sq fun k43 h43 => c_rg <| r_mv rfl rfl <| r_mv rfl rfl <| r_im (hA.app _) Tryz.underlying47 (by kernel_rfl) rfl rfl rfl rfl (by omega) (by omega) <| r_li (i) (hA.app _) Tryz.underlying21 rfl rfl rfl (by omega) <| r_ltF rfl rfl rfl (by omega) <| r_nx h43 <| c_cF rfl <| c_sk <| WE.blk_n <| WE.then_n h35 <| c_rg <| r_mv rfl rfl <| r_ad rfl rfl rfl (wadd64 (by omega)) <| r_as rfl rfl <| r_nl ?_; rotate_left)
      exact WE.back (i + 1, p) ⟨by dsimp only; omega, by dsimp only; rw [hs]; omega⟩ (by dsimp only; omega) ⟨rfl, rfl, by dsimp only; rw [hs]; rfl, trivial⟩ (by dsimp only; rw [hs]; exact Mem.keep)
  · have e : l.take i = l := List.take_of_length_le (by omega)
    rw [e] at hbl ⊢
    obtain ⟨out0, ho⟩ : ∃ o, o = (if 0 < (basics l).length then basics l ++ [45] else []) := ⟨_, rfl⟩
    have hcnt := basics_length l
    have hcl : (basics l).length ≤ l.length := by omega
    have hol : out0.length ≤ (basics l).length + 1 := by rw [ho]; split <;> simp
    have hE : encP l = encOut l (basics l).length (l.length + 1) 128 (0, 72, (basics l).length, out0) := by rw [ho]; rfl
    (refine c_sq fun k35 h35 => ?_)
    (refine c_sq fun k37 h37 => c_rg <| r_mv rfl rfl <| r_mv rfl rfl <| r_ls Tryz.underlying47 rfl rfl <| r_ltF rfl rfl rfl (by omega) <| r_nx h37 <| c_cF rfl <| c_ex <| WE.then_x <| WE.then_x <| WE.blk_x <| WE.then_n h18 <| c_sq fun k39 h39 => c_rg <| r_mv rfl rfl <| r_ls Tryz.underlying75 rfl rfl <| r_as rfl rfl <| r_nx h39 ?_; rotate_left)
    refine WC.cut (α := Option Addr × Nat) (fun x => [(0, .slice A l.length c), (4, .slice x.1 out0.length x.2), (6, .int .i64 (basics l).length)]) (fun x => [OwnB x out0]) (fun _ => True) ?_ ?_
    · by_cases h0 : 0 < (basics l).length
      · rw [if_pos h0] at ho
        subst ho
        (refine c_sq fun k45 h45 => c_rg <| r_mv rfl rfl <| r_gtT rfl rfl rfl (by omega) <| r_nx h45 <| c_cT rfl <| c_rg <| r_mv rfl rfl <| r_bo Tryz.underlying75 rfl (fun _ => by kernel_rfl) rfl rfl rfl (fun _ => ?_); rotate_left)
        refine r_am (xs := basics l) (ys := ([45] : List UInt8)) 1 (z := .int .u8 0) (by_ := 1) (f := fun b : UInt8 => .int .u8 b.toNat) Tryz.underlying75 (by kernel_rfl) rfl rfl rfl rfl (Rd.own 0 rfl) rfl (fun _ => rfl) (by omega) rfl (fun p2 _ => ?_)
        (refine r_as rfl rfl <| r_nl ?_; rotate_left)
        exact WE.met p2 trivial ⟨rfl, rfl, rfl, trivial⟩ (Mem.pick [1] (by decide) rfl)
      · have hb0 : basics l = [] := List.eq_nil_of_length_eq_zero (by omega)
        rw [if_neg h0] at ho
        subst ho
        (refine c_sq fun k46 h46 => c_rg <| r_mv rfl rfl <| r_gtF rfl rfl rfl (by omega) <| r_nx h46 <| c_cF rfl <| c_sk ?_; rotate_left)
        exact WE.met p trivial ⟨rfl, by rw [hb0]; rfl, rfl, trivial⟩ (by rw [hb0]; exact Mem.keep)
    · clear hbl hlt hi e ho
      rintro p _
      have hmx : ∀ x ∈ l, x ≤ 1114111 := fun x hx => (hl x hx).1.2
      (refine c_sq fun k44 h44 => c_rg <| r_as rfl rfl <| r_nx h44 <| c_sq fun k46 h46 => c_rg <| r_as rfl rfl <| r_nx h46 <| c_sq fun k48 h48 => c_rg <| r_as rfl rfl <| r_nx h48 <| c_sq fun k50 h50 => c_rg <| r_mv rfl rfl <| r_as rfl rfl <| r_nx h50 <| c_sq fun k52 h52 => c_bl ?_; rotate_left)
      refine WC.loop (α := Nat × Int × ES × (Option Addr × Nat)) (fun x => [(0, .slice A l.length c), (4, .slice x.2.2.2.1 x.2.2.1.2.2.2.length x.2.2.2.2), (6, .int .i64 (basics l).length), (7, .int .i64 x.2.1), (8, .int .i64 x.2.2.1.1), (9, .int .i64 x.2.2.1.2.1), (10, .int .i64 x.2.2.1.2.2.1)])
        (fun x => [OwnB x.2.2.2 x.2.2.1.2.2.2])
        (fun x => encOut l (basics l).length x.1 x.2.1 x.2.2.1 = encP l ∧ l.length < x.1 + x.2.2.1.2.2.1 ∧ x.2.2.1.2.2.1 = below x.2.1 l ∧ (128 ≤ x.2.1 ∧ x.2.1 ≤ 1114112) ∧ (0 ≤ x.2.2.1.1 ∧ x.2.2.1.1 ≤ x.2.1 * (l.length + 1)) ∧ (0 ≤ x.2.2.1.2.1 ∧ x.2.2.1.2.1 ≤ 1000) ∧ x.2.2.1.2.2.2.length ≤ l.length + 1 + 20 * x.2.2.1.2.2.1)
        (fun x => l.length - x.2.2.1.2.2.1) (l.length + 1, 128, (0, 72, (basics l).length, out0), p)
        ⟨hE.symm, by dsimp only; omega, hcnt, by dsimp only; omega, by dsimp only; omega, by dsimp only; omega, by dsimp only; omega⟩ ⟨rfl, rfl, rfl, rfl, rfl, rfl, rfl, trivial⟩ Mem.keep ?_
      clear p hol hE out0
      rintro ⟨f, n, ⟨delta, bias, h, out⟩, p⟩ ⟨e1, e2, e3, e4, e5, e6, e7⟩
      dsimp only at e1 e2 e3 e4 e5 e6 e7 ⊢
      have hbl2 : below n l ≤ l.length := List.countP_le_length
      by_cases hlt : h < l.length
      · cases f with
        | zero => omega
        | succ f =>
          rw [encOut, if_pos hlt] at e1
          obtain ⟨hm1, hm2⟩ := minGe_mem hmx (n := n) (by omega)
          have hmb := hmx _ hm1
          have hle : leastP n l = minGe n l := by
            rcases least_law (n := n) l hmx with ⟨_, h1, _⟩ | ⟨h1, _⟩
            · have := h1 _ hm1; omega
            · exact h1
          have q0 : 0 ≤ (minGe n l - n) * ((h : Int) + 1) := Int.mul_nonneg (by omega) (by omega)
          have q1 : (minGe n l - n) * ((h : Int) + 1) ≤ (minGe n l - n) * ((l.length : Int) + 1) := Int.mul_le_mul_of_nonneg_left (by omega) (by omega)
          have q2 : n * ((l.length : Int) + 1) + (minGe n l - n) * ((l.length : Int) + 1) = minGe n l * ((l.length : Int) + 1) := by rw [← Int.add_mul]; congr 1; omega
          have q3 : minGe n l * ((l.length : Int) + 1) ≤ 1114111 * 65537 := Int.mul_le_mul hmb (by omega) (by omega) (by omega)
          have q4 : 0 ≤ n * ((l.length : Int) + 1) := Int.mul_nonneg (by omega) (by omega)
          have q5 : (minGe n l + 1) * ((l.length : Int) + 1) = minGe n l * ((l.length : Int) + 1) + ((l.length : Int) + 1) := by rw [Int.add_mul, Int.one_mul]
          (refine c_sq fun k86 h86 => c_sq fun k88 h88 => c_rg <| r_mv rfl rfl <| r_mv rfl rfl <| r_ls Tryz.underlying47 rfl rfl <| r_ltT rfl rfl rfl (by omega) <| r_nx h88 <| c_cT rfl <| c_sk <| WE.then_n h86 <| c_bl <| c_sq fun k90 h90 => c_rg <| r_mv rfl rfl <| r_mv rfl rfl ?_; rotate_left)
          refine WX.pure rfl rfl (rleast_spec A c l n (by omega) hb32 _ _ (hA.app _)) rfl rfl ?_
          rw [hle]
          (refine r_as rfl rfl <| r_nx h90 <| c_sq fun k92 h92 => c_rg <| r_mv rfl rfl <| r_mv rfl rfl <| r_mv rfl rfl <| r_su rfl rfl rfl (wsub64 (by omega)) <| r_mv rfl rfl <| r_ad rfl rfl rfl (wadd64 (by omega)) <| r_mu rfl rfl rfl (wmul64 (by omega)) <| r_ad rfl rfl rfl (wadd64 (by omega)) <| r_as rfl rfl <| r_nx h92 <| c_sq fun k94 h94 => c_rg <| r_mv rfl rfl <| r_as rfl rfl <| r_nx h94 <| c_sq fun k96 h96 => c_sq fun k98 h98 => c_rg <| r_as rfl rfl <| r_nx h98 <| c_bl ?_; rotate_left)
          obtain ⟨s0, hs0⟩ : ∃ s0 : ES, s0 = (delta + (minGe n l - n) * ((h : Int) + 1), bias, h, out) := ⟨_, rfl⟩
          have hd0 : s0.1 = delta + (minGe n l - n) * ((h : Int) + 1) := by rw [hs0]
          have hb0 : s0.2.1 = bias := by rw [hs0]
          have hh0 : s0.2.2.1 = h := by rw [hs0]
          have ho0 : s0.2.2.2 = out := by rw [hs0]
          refine WC.loop (α := Nat × ES × (Option Addr × Nat)) (fun x => [(0, .slice A l.length c), (4, .slice x.2.2.1 x.2.1.2.2.2.length x.2.2.2), (6, .int .i64 (basics l).length), (7, .int .i64 (minGe n l)), (8, .int .i64 x.2.1.1), (9, .int .i64 x.2.1.2.1), (10, .int .i64 x.2.1.2.2.1), (12, .int .i64 x.1)])
            (fun x => [OwnB x.2.2 x.2.1.2.2.2]) (fun x => x.1 ≤ l.length ∧ encIn (minGe n l) (basics l).length (l.take x.1) s0 = x.2.1) (fun x => l.length - x.1)
            (0, (delta + (minGe n l - n) * ((h : Int) + 1), bias, h, out), p) ⟨by simp, by rw [hs0]; rfl⟩ ⟨rfl, rfl, rfl, rfl, rfl, rfl, rfl, rfl, trivial⟩ Mem.keep ?_
          rintro ⟨i, ⟨dl, bi, hh, o⟩, p⟩ ⟨hi, he⟩
          dsimp only at hi he ⊢
          have htl : (l.take i).length = i := by simp; omega
          have pr := encIn_props (minGe n l) (basics l).length s0 (by omega) (by omega) i (l.take i) htl (by omega)
          rw [he] at pr
          obtain ⟨p1, p2, p3, p4⟩ := pr
          have hcp : (l.take i).countP (fun c => decide (c = minGe n l)) ≤ (l.take i).length := List.countP_le_length
          dsimp only at p1 p2 p3 p4
          rw [ho0] at p4
          rw [hh0] at p3
          by_cases hli : i < l.length
          · have hc := hl.getD hli
            have hs := encIn_snoc (minGe n l) (basics l).length (l.take i) (l.getD i 0) s0
            rw [← take_next hli, he] at hs
            unfold encStep at hs
            dsimp only at hs
            by_cases hc2 : l.getD i 0 < minGe n l
            · rw [if_pos hc2, if_neg (by omega)] at hs
              (refine c_sq fun k130 h130 => c_sq fun k132 h132 => c_rg <| r_mv rfl rfl <| r_mv rfl rfl <| r_ls Tryz.underlying47 rfl rfl <| r_ltT rfl rfl rfl (by omega) <| r_nx h132 <| c_cT rfl <| c_sk <| WE.then_n h130 <| c_sq fun k134 h134 => c_bl <| c_sq fun k136 h136 => c_sq fun k138 h138 => c_rg <| r_mv rfl rfl <| r_mv rfl rfl <| r_im (hA.app _) Tryz.underlying47 (by kernel_rfl) rfl rfl rfl rfl (by omega) (by omega) <| r_li (i) (hA.app _) Tryz.underlying21 rfl rfl rfl (by omega) <| r_cv rfl (cv_int (k' := .i64) rfl Tryz.underlying3 (w64 (by omega))) rfl <| r_mv rfl rfl <| r_ltT rfl rfl rfl (by omega) <| r_nx h138 <| c_cT rfl <| c_rg <| r_mv rfl rfl <| r_ad rfl rfl rfl (wadd64 (by omega)) <| r_as rfl rfl <| r_nx h136 <| c_sq fun k140 h140 => c_rg <| r_mv rfl rfl <| r_mv rfl rfl <| r_im (hA.app _) Tryz.underlying47 (by kernel_rfl) rfl rfl rfl rfl (by omega) (by omega) <| r_li (i) (hA.app _) Tryz.underlying21 rfl rfl rfl (by omega) <| r_cv rfl (cv_int (k' := .i64) rfl Tryz.underlying3 (w64 (by omega))) rfl <| r_mv rfl rfl <| r_eqF rfl rfl rfl (by omega) <| r_nx h140 <| c_cF rfl <| c_sk <| WE.blk_n <| WE.then_n h134 <| c_rg <| r_mv rfl rfl <| r_ad rfl rfl rfl (wadd64 (by omega)) <| r_as rfl rfl <| r_nl ?_; rotate_left)
              exact WE.back (i + 1, (dl + 1, bi, hh, o), p) ⟨by dsimp only; omega, hs⟩ (by dsimp only; omega) ⟨rfl, rfl, rfl, rfl, rfl, rfl, rfl, rfl, trivial⟩ Mem.keep
            · by_cases hc3 : l.getD i 0 = minGe n l
              · rw [if_neg hc2, if_pos hc3] at hs
                have hnl := numL_len bi 20 dl 36
                (refine c_sq fun k132 h132 => c_sq fun k134 h134 => c_rg <| r_mv rfl rfl <| r_mv rfl rfl <| r_ls Tryz.underlying47 rfl rfl <| r_ltT rfl rfl rfl (by omega) <| r_nx h134 <| c_cT rfl <| c_sk <| WE.then_n h132 <| c_sq fun k136 h136 => c_bl <| c_sq fun k138 h138 => c_sq fun k140 h140 => c_rg <| r_mv rfl rfl <| r_mv rfl rfl <| r_im (hA.app _) Tryz.underlying47 (by kernel_rfl) rfl rfl rfl rfl (by omega) (by omega) <| r_li (i) (hA.app _) Tryz.underlying21 rfl rfl rfl (by omega) <| r_cv rfl (cv_int (k' := .i64) rfl Tryz.underlying3 (w64 (by omega))) rfl <| r_mv rfl rfl <| r_ltF rfl rfl rfl (by omega) <| r_nx h140 <| c_cF rfl <| c_sk <| WE.then_n h138 <| c_sq fun k142 h142 => c_rg <| r_mv rfl rfl <| r_mv rfl rfl <| r_im (hA.app _) Tryz.underlying47 (by kernel_rfl) rfl rfl rfl rfl (by omega) (by omega) <| r_li (i) (hA.app _) Tryz.underlying21 rfl rfl rfl (by omega) <| r_cv rfl (cv_int (k' := .i64) rfl Tryz.underlying3 (w64 (by omega))) rfl <| r_mv rfl rfl <| r_eqT rfl rfl rfl (by omega) <| r_nx h142 <| c_cT rfl <| c_sq fun k144 h144 => c_rg <| r_mv rfl rfl <| r_mv rfl rfl <| r_mv rfl rfl ?_; rotate_left)
                refine WX.call (m1 := []) (m2 := _) rfl rfl rfl (rtell_spec dl bi (by omega) (by omega) _ _) rfl rfl (fun q _ => ?_)
                refine r_am (xs := o) (ys := numP dl bi) 1 (z := .int .u8 0) (by_ := 1) (f := fun b : UInt8 => .int .u8 b.toNat) Tryz.underlying75 (by kernel_rfl) rfl rfl rfl rfl (Rd.own 0 rfl) rfl (fun _ => rfl) (by unfold numP; omega) rfl (fun p2 _ => ?_)
                by_cases hbq : hh = (basics l).length
                · rw [decide_eq_true hbq] at hs
                  (refine r_as rfl rfl <| r_nx h144 <| c_sq fun k152 h152 => c_rg <| r_mv rfl rfl <| r_mv rfl rfl <| r_ad rfl rfl rfl (wadd64 (by omega)) <| r_mv rfl rfl <| r_mv rfl rfl <| r_eqT rfl rfl rfl (by omega) ?_; rotate_left)
                  refine WX.pure rfl rfl (radapt_spec dl ((hh : Int) + 1) true (by omega) _ _) rfl rfl ?_
                  (refine r_as rfl rfl <| r_nx h152 <| c_sq fun k154 h154 => c_rg <| r_as rfl rfl <| r_nx h154 <| c_rg <| r_mv rfl rfl <| r_ad rfl rfl rfl (wadd64 (by omega)) <| r_as rfl rfl <| r_nl <| WE.blk_n <| WE.then_n h136 <| c_rg <| r_mv rfl rfl <| r_ad rfl rfl rfl (wadd64 (by omega)) <| r_as rfl rfl <| r_nl ?_; rotate_left)
                  exact WE.back (i + 1, (0, adaptP dl ((hh : Int) + 1) true, hh + 1, o ++ numP dl bi), p2) ⟨by dsimp only; omega, hs⟩ (by dsimp only; omega) ⟨rfl, rfl, rfl, rfl, rfl, rfl, rfl, rfl, trivial⟩ (Mem.pick [1] (by decide) rfl)
                · rw [decide_eq_false hbq] at hs
                  (refine r_as rfl rfl <| r_nx h144 <| c_sq fun k152 h152 => c_rg <| r_mv rfl rfl <| r_mv rfl rfl <| r_ad rfl rfl rfl (wadd64 (by omega)) <| r_mv rfl rfl <| r_mv rfl rfl <| r_eqF rfl rfl rfl (by omega) ?_; rotate_left)
                  refine WX.pure rfl rfl (radapt_spec dl ((hh : Int) + 1) false (by omega) _ _) rfl rfl ?_
                  (refine r_as rfl rfl <| r_nx h152 <| c_sq fun k154 h154 => c_rg <| r_as rfl rfl <| r_nx h154 <| c_rg <| r_mv rfl rfl <| r_ad rfl rfl rfl (wadd64 (by omega)) <| r_as rfl rfl <| r_nl <| WE.blk_n <| WE.then_n h136 <| c_rg <| r_mv rfl rfl <| r_ad rfl rfl rfl (wadd64 (by omega)) <| r_as rfl rfl <| r_nl ?_; rotate_left)
                  exact WE.back (i + 1, (0, adaptP dl ((hh : Int) + 1) false, hh + 1, o ++ numP dl bi), p2) ⟨by dsimp only; omega, hs⟩ (by dsimp only; omega) ⟨rfl, rfl, rfl, rfl, rfl, rfl, rfl, rfl, trivial⟩ (Mem.pick [1] (by decide) rfl)
              · rw [if_neg hc2, if_neg hc3] at hs
                (refine c_sq fun k131 h131 => c_sq fun k133 h133 => c_rg <| r_mv rfl rfl <| r_mv rfl rfl <| r_ls Tryz.underlying47 rfl rfl <| r_ltT rfl rfl rfl (by omega) <| r_nx h133 <| c_cT rfl <| c_sk <| WE.then_n h131 <| c_sq fun k135 h135 => c_bl <| c_sq fun k137 h137 => c_sq fun k139 h139 => c_rg <| r_mv rfl rfl <| r_mv rfl rfl <| r_im (hA.app _) Tryz.underlying47 (by kernel_rfl) rfl rfl rfl rfl (by omega) (by omega) <| r_li (i) (hA.app _) Tryz.underlying21 rfl rfl rfl (by omega) <| r_cv rfl (cv_int (k' := .i64) rfl Tryz.underlying3 (w64 (by omega))) rfl <| r_mv rfl rfl <| r_ltF rfl rfl rfl (by omega) <| r_nx h139 <| c_cF rfl <| c_sk <| WE.then_n h137 <| c_sq fun k141 h141 => c_rg <| r_mv rfl rfl <| r_mv rfl rfl <| r_im (hA.app _) Tryz.underlying47 (by kernel_rfl) rfl rfl rfl rfl (by omega) (by omega) <| r_li (i) (hA.app _) Tryz.underlying21 rfl rfl rfl (by omega) <| r_cv rfl (cv_int (k' := .i64) rfl Tryz.underlying3 (w64 (by omega))) rfl <| r_mv rfl rfl <| r_eqF rfl rfl rfl (by omega) <| r_nx h141 <| c_cF rfl <| c_sk <| WE.blk_n <| WE.then_n h135 <| c_rg <| r_mv rfl rfl <| r_ad rfl rfl rfl (wadd64 (by omega)) <| r_as rfl rfl <| r_nl ?_; rotate_left)
                exact WE.back (i + 1, (dl, bi, hh, o), p) ⟨by dsimp only; omega, hs⟩ (by dsimp only; omega) ⟨rfl, rfl, rfl, rfl, rfl, rfl, rfl, rfl, trivial⟩ Mem.keep
          · have hta : l.take i = l := List.take_of_length_le (by omega)
            rw [hta] at he p3 p4 hcp
            have hR : encRound l (basics l).length n (delta, bias, h, out) = (dl, bi, hh, o) := by rw [← he, hs0]; rfl
            rw [hR] at e1
            have hpos : 0 < l.countP (fun c => decide (c = minGe n l)) := List.countP_pos_iff.2 ⟨_, hm1, by simp⟩
            have hbs := below_succ (minGe n l) l
            rw [below_min hmx hm2, ← e3] at hbs
            have hil : (i : Int) = l.length := by omega
            (refine c_sq fun k130 h130 => c_sq fun k132 h132 => c_rg <| r_mv rfl rfl <| r_mv rfl rfl <| r_ls Tryz.underlying47 rfl rfl <| r_ltF rfl rfl rfl (by omega) <| r_nx h132 <| c_cF rfl <| c_ex <| WE.then_x <| WE.then_x <| WE.blk_x <| WE.then_n h96 <| c_sq fun k134 h134 => c_rg <| r_mv rfl rfl <| r_ad rfl rfl rfl (wadd64 (by omega)) <| r_as rfl rfl <| r_nx h134 <| c_rg <| r_mv rfl rfl <| r_ad rfl rfl rfl (wadd64 (by omega)) <| r_as rfl rfl <| r_nl <| WE.blk_n ?_; rotate_left)
            exact WE.back (f, minGe n l + 1, (dl + 1, bi, hh, o), p) ⟨e1, by dsimp only; omega, by dsimp only; omega, by dsimp only; omega, by dsimp only; omega, p2, by dsimp only; omega⟩ (by dsimp only; omega) ⟨rfl, rfl, rfl, rfl, rfl, rfl, rfl, trivial⟩ Mem.keep
      · have hfin : encOut l (basics l).length f n (delta, bias, h, out) = out := by cases f with | zero => rfl | succ f => rw [encOut, if_neg hlt]
        rw [hfin] at e1
        (refine c_sq fun k73 h73 => c_sq fun k75 h75 => c_rg <| r_mv rfl rfl <| r_mv rfl rfl <| r_ls Tryz.underlying47 rfl rfl <| r_ltF rfl rfl rfl (by omega) <| r_nx h75 <| c_cF rfl <| c_ex <| WE.then_x <| WE.then_x <| WE.blk_x <| WE.then_n h52 <| c_sq fun k77 h77 => c_rg <| r_mv rfl rfl ?_; rotate_left)
        refine r_cm rfl (fun w hw => conv_bytes (Rd.own 0 rfl) w hw) rfl ?_
        (refine r_as rfl rfl <| r_as rfl rfl <| r_nx h77 <| c_rt ?_; rotate_left)
        exact WE.ret2 () rfl rfl rfl rfl (by rw [e1]) trivial Mem.drop
end Go.Proofs.YtkggplnigjlegaaGreatDoor

/- The document's text of code points: the walk. -/
set_option linter.unusedVariables false
namespace Go.Proofs.YtkggplnigjlegaaGreatDoor
open Go.RowKit Go.Gp

def encB (c : Int) : List UInt8 := (Utf8.encode c).data.toList
theorem valid_of {c : Int} (h : ScP c) : Utf8.valid c = true := by
  unfold Utf8.valid
  simp
  omega
theorem u8_ofNat {n : Nat} (h : n < 256) : ((UInt8.ofNat n).toNat : Int) = n := by
  rw [UInt8.toNat_ofNat']
  omega
set_option maxRecDepth 100000 in
theorem enc1 {c : Int} (h : ScP c) (h1 : c < 128) : bys (encB c) = [.int .u8 c] ∧ (encB c).length = 1 := by
  obtain ⟨n, rfl⟩ : ∃ n : Nat, c = (n : Int) := ⟨c.toNat, by omega⟩
  unfold encB Utf8.encode
  simp only [valid_of h, if_true, Int.toNat_natCast]
  rw [if_pos (by omega)]
  exact ⟨by simp only [bys, List.map_cons, List.map_nil]; rw [u8_ofNat (by omega)], by simp⟩
set_option maxRecDepth 100000 in
theorem enc2 {c : Int} (h : ScP c) (h1 : ¬ c < 128) (h2 : c < 2048) : bys (encB c) = [.int .u8 (192 + c / 64), .int .u8 (128 + c % 64)] ∧ (encB c).length = 2 := by
  obtain ⟨n, rfl⟩ : ∃ n : Nat, c = (n : Int) := ⟨c.toNat, by omega⟩
  unfold encB Utf8.encode
  simp only [valid_of h, if_true, Int.toNat_natCast]
  rw [if_neg (by omega), if_pos (by omega)]
  exact ⟨by simp only [bys, List.map_cons, List.map_nil]; rw [u8_ofNat (by omega), u8_ofNat (by omega)]; simp, by simp⟩
set_option maxRecDepth 100000 in
theorem enc3 {c : Int} (h : ScP c) (h1 : ¬ c < 128) (h2 : ¬ c < 2048) (h3 : c < 65536) : bys (encB c) = [.int .u8 (224 + c / 4096), .int .u8 (128 + c / 64 % 64), .int .u8 (128 + c % 64)] ∧ (encB c).length = 3 := by
  obtain ⟨n, rfl⟩ : ∃ n : Nat, c = (n : Int) := ⟨c.toNat, by omega⟩
  unfold encB Utf8.encode
  simp only [valid_of h, if_true, Int.toNat_natCast]
  rw [if_neg (by omega), if_neg (by omega), if_pos (by omega)]
  exact ⟨by simp only [bys, List.map_cons, List.map_nil]; rw [u8_ofNat (by omega), u8_ofNat (by omega), u8_ofNat (by omega)]; simp, by simp⟩
set_option maxRecDepth 100000 in
theorem enc4 {c : Int} (h : ScP c) (h1 : ¬ c < 128) (h2 : ¬ c < 2048) (h3 : ¬ c < 65536) : bys (encB c) = [.int .u8 (240 + c / 262144), .int .u8 (128 + c / 4096 % 64), .int .u8 (128 + c / 64 % 64), .int .u8 (128 + c % 64)] ∧ (encB c).length = 4 := by
  obtain ⟨n, rfl⟩ : ∃ n : Nat, c = (n : Int) := ⟨c.toNat, by omega⟩
  unfold encB Utf8.encode
  simp only [valid_of h, if_true, Int.toNat_natCast]
  rw [if_neg (by omega), if_neg (by omega), if_neg (by omega)]
  exact ⟨by simp only [bys, List.map_cons, List.map_nil]; rw [u8_ofNat (by omega), u8_ofNat (by omega), u8_ofNat (by omega), u8_ofNat (by omega)]; simp, by simp⟩
set_option maxRecDepth 100000 in
theorem rbytes_spec (c : Int) (h : ScP c) (w0 : World) (m0 : List Res) :
    Ct (α := Option Addr × Nat) Tryz.prog 101 [.int .i32 c] w0 [] m0 (fun _ => True) (fun p => .slice p.1 (encB c).length p.2) (fun p => [OwnB p (encB c)]) := by
  refine Ct.of Tryz.func101 rfl (by kernel_rfl) rfl ?_
  by_cases h1 : c < 128
  · obtain ⟨e1, e2⟩ := enc1 h h1
    simp only [OwnB, e1, e2]
    (refine c_sq fun k8 h8 => c_rg <| r_as rfl rfl <| r_nx h8 <| c_sq fun k10 h10 => c_sq fun k12 h12 => c_rg <| r_mv rfl rfl <| r_ltT rfl rfl rfl (by omega) <| r_nx h12 <| c_cT rfl <| c_sq fun k14 h14 => c_rg <| r_mv rfl rfl <| r_cv rfl (cv_int (k' := .u8) rfl Tryz.underlying5 (w8 (by omega))) rfl <| r_bo Tryz.underlying75 rfl (fun _ => by kernel_rfl) rfl rfl rfl (fun _ => ?_); refine r_as rfl rfl <| r_nx h14 <| c_rt <| WE.then_r ?_; rotate_left)
    rename_i b
    exact WE.ret1 (some ⟨b, 0, none⟩, 1) rfl rfl rfl trivial Mem.keep
  · by_cases h2 : c < 2048
    · obtain ⟨e1, e2⟩ := enc2 h h1 h2
      simp only [OwnB, e1, e2]
      (refine c_sq fun k9 h9 => c_rg <| r_as rfl rfl <| r_nx h9 <| c_sq fun k11 h11 => c_sq fun k13 h13 => c_rg <| r_mv rfl rfl <| r_ltF rfl rfl rfl (by omega) <| r_nx h13 <| c_cF rfl <| c_sk <| WE.then_n h11 <| c_sq fun k15 h15 => c_sq fun k17 h17 => c_rg <| r_mv rfl rfl <| r_ltT rfl rfl rfl (by omega) <| r_nx h17 <| c_cT rfl <| c_sq fun k19 h19 => c_rg <| r_mv rfl rfl <| r_qu rfl rfl rfl (by omega) (wquo32 (by omega)) <| r_ad rfl rfl rfl (wadd32 (by omega)) <| r_cv rfl (cv_int (k' := .u8) rfl Tryz.underlying5 (w8 (by omega))) rfl <| r_mv rfl rfl <| r_re rfl rfl rfl (by omega) (wrem (by omega)) <| r_ad rfl rfl rfl (wadd32 (by omega)) <| r_cv rfl (cv_int (k' := .u8) rfl Tryz.underlying5 (w8 (by omega))) rfl <| r_bo Tryz.underlying75 rfl (fun _ => by kernel_rfl) rfl rfl rfl (fun _ => ?_); refine r_as rfl rfl <| r_nx h19 <| c_rt <| WE.then_r ?_; rotate_left)
      rename_i b
      exact WE.ret1 (some ⟨b, 0, none⟩, 2) rfl rfl rfl trivial Mem.keep
    · by_cases h3 : c < 65536
      · obtain ⟨e1, e2⟩ := enc3 h h1 h2 h3
        simp only [OwnB, e1, e2]
        (refine c_sq fun k10 h10 => c_rg <| r_as rfl rfl <| r_nx h10 <| c_sq fun k12 h12 => c_sq fun k14 h14 => c_rg <| r_mv rfl rfl <| r_ltF rfl rfl rfl (by omega) <| r_nx h14 <| c_cF rfl <| c_sk <| WE.then_n h12 <| c_sq fun k16 h16 => c_sq fun k18 h18 => c_rg <| r_mv rfl rfl <| r_ltF rfl rfl rfl (by omega) <| r_nx h18 <| c_cF rfl <| c_sk <| WE.then_n h16 <| c_sq fun k20 h20 => c_sq fun k22 h22 => c_rg <| r_mv rfl rfl <| r_ltT rfl rfl rfl (by omega) <| r_nx h22 <| c_cT rfl <| c_sq fun k24 h24 => c_rg <| r_mv rfl rfl <| r_qu rfl rfl rfl (by omega) (wquo32 (by omega)) <| r_ad rfl rfl rfl (wadd32 (by omega)) <| r_cv rfl (cv_int (k' := .u8) rfl Tryz.underlying5 (w8 (by omega))) rfl <| r_mv rfl rfl <| r_qu rfl rfl rfl (by omega) (wquo32 (by omega)) <| r_re rfl rfl rfl (by omega) (wrem (by omega)) <| r_ad rfl rfl rfl (wadd32 (by omega)) <| r_cv rfl (cv_int (k' := .u8) rfl Tryz.underlying5 (w8 (by omega))) rfl <| r_mv rfl rfl <| r_re rfl rfl rfl (by omega) (wrem (by omega)) <| r_ad rfl rfl rfl (wadd32 (by omega)) <| r_cv rfl (cv_int (k' := .u8) rfl Tryz.underlying5 (w8 (by omega))) rfl <| r_bo Tryz.underlying75 rfl (fun _ => by kernel_rfl) rfl rfl rfl (fun _ => ?_); refine r_as rfl rfl <| r_nx h24 <| c_rt <| WE.then_r ?_; rotate_left)
        rename_i b
        exact WE.ret1 (some ⟨b, 0, none⟩, 3) rfl rfl rfl trivial Mem.keep
      · obtain ⟨e1, e2⟩ := enc4 h h1 h2 h3
        simp only [OwnB, e1, e2]
        (refine c_sq fun k10 h10 => c_rg <| r_as rfl rfl <| r_nx h10 <| c_sq fun k12 h12 => c_sq fun k14 h14 => c_rg <| r_mv rfl rfl <| r_ltF rfl rfl rfl (by omega) <| r_nx h14 <| c_cF rfl <| c_sk <| WE.then_n h12 <| c_sq fun k16 h16 => c_sq fun k18 h18 => c_rg <| r_mv rfl rfl <| r_ltF rfl rfl rfl (by omega) <| r_nx h18 <| c_cF rfl <| c_sk <| WE.then_n h16 <| c_sq fun k20 h20 => c_sq fun k22 h22 => c_rg <| r_mv rfl rfl <| r_ltF rfl rfl rfl (by omega) <| r_nx h22 <| c_cF rfl <| c_sk <| WE.then_n h20 <| c_sq fun k24 h24 => c_rg <| r_mv rfl rfl <| r_qu rfl rfl rfl (by omega) (wquo32 (by omega)) <| r_ad rfl rfl rfl (wadd32 (by omega)) <| r_cv rfl (cv_int (k' := .u8) rfl Tryz.underlying5 (w8 (by omega))) rfl <| r_mv rfl rfl <| r_qu rfl rfl rfl (by omega) (wquo32 (by omega)) <| r_re rfl rfl rfl (by omega) (wrem (by omega)) <| r_ad rfl rfl rfl (wadd32 (by omega)) <| r_cv rfl (cv_int (k' := .u8) rfl Tryz.underlying5 (w8 (by omega))) rfl <| r_mv rfl rfl <| r_qu rfl rfl rfl (by omega) (wquo32 (by omega)) <| r_re rfl rfl rfl (by omega) (wrem (by omega)) <| r_ad rfl rfl rfl (wadd32 (by omega)) <| r_cv rfl (cv_int (k' := .u8) rfl Tryz.underlying5 (w8 (by omega))) rfl <| r_mv rfl rfl <| r_re rfl rfl rfl (by omega) (wrem (by omega)) <| r_ad rfl rfl rfl (wadd32 (by omega)) <| r_cv rfl (cv_int (k' := .u8) rfl Tryz.underlying5 (w8 (by omega))) rfl <| r_bo Tryz.underlying75 rfl (fun _ => by kernel_rfl) rfl rfl rfl (fun _ => ?_); refine r_as rfl rfl <| r_nx h24 <| c_rt ?_; rotate_left)
        rename_i b
        exact WE.ret1 (some ⟨b, 0, none⟩, 4) rfl rfl rfl trivial Mem.keep
theorem runesBytes_snoc (l : List Int) (c : Int) : runesBytes (l ++ [c]) = runesBytes l ++ Utf8.encode c := by simp [runesBytes]
theorem rb_list (l : List Int) (c : Int) : (runesBytes (l ++ [c])).data.toList = (runesBytes l).data.toList ++ encB c := by
  rw [runesBytes_snoc, ByteArray.data_append, Array.toList_append]
  rfl
theorem encB_le (c : Int) : (encB c).length ≤ 4 := by
  have := encode_size_le c
  unfold encB
  simpa using this
theorem rb_len (l : List Int) : (runesBytes l).data.toList.length ≤ 4 * l.length := by
  have := runesBytes_size_le l
  simpa using this
theorem strOf_self (s : ByteArray) : strOf s.data.toList = s := by
  unfold strOf
  cases s
  simp
set_option maxRecDepth 100000 in
theorem rencU_spec (A : Option Addr) (c : Nat) (l : List Int) (hn : l.length ≤ 1000000) (hl : Sc l) (w0 : World) (m0 : List Res) (hA : Rd w0 m0 A (runes l)) :
    PureC Tryz.prog 70 [.slice A l.length c] w0 m0 (.string (runesBytes l)) := by
  refine Ct.of Tryz.func70 rfl (by kernel_rfl) rfl ?_
  (refine c_sq fun k9 h9 => c_rg <| r_as rfl rfl <| r_nx h9 <| c_sq fun k11 h11 => c_rg <| r_as rfl rfl <| r_nx h11 <| c_sq fun k13 h13 => c_sq fun k15 h15 => c_rg <| r_as rfl rfl <| r_nx h15 <| c_bl ?_; rotate_left)
  refine WC.loop (α := Nat × (Option Addr × Nat)) (fun x => [(0, .slice A l.length c), (4, .int .i64 x.1), (3, .slice x.2.1 (runesBytes (l.take x.1)).data.toList.length x.2.2)]) (fun x => [OwnB x.2 (runesBytes (l.take x.1)).data.toList]) (fun x => x.1 ≤ l.length) (fun x => l.length - x.1) (0, (none, 0)) (by simp) ⟨rfl, rfl, rfl, trivial⟩ (Mem.nilOwn _ _) ?_
  rintro ⟨i, p⟩ hi
  dsimp only at hi ⊢
  have hb := rb_len (l.take i)
  have hti : (l.take i).length ≤ i := List.length_take_le _ _
  by_cases hlt : i < l.length
  · have hc := hl.getD hlt
    have hsc : ∀ mm, PureC Tryz.prog 69 [.int .i32 (l.getD i 0)] w0 mm (.bool true) := fun mm => by have := scalar_spec (l.getD i 0) w0 mm; rwa [decide_eq_true hc] at this
    have hs := rb_list (l.take i) (l.getD i 0)
    rw [← take_next hlt] at hs
    have he := encB_le (l.getD i 0)
    (refine c_sq fun k28 h28 => c_sq fun k30 h30 => c_rg <| r_mv rfl rfl <| r_mv rfl rfl <| r_ls Tryz.underlying47 rfl rfl <| r_ltT rfl rfl rfl (by omega) <| r_nx h30 <| c_cT rfl <| c_sk <| WE.then_n h28 <| c_sq fun k32 h32 => c_bl <| c_sq fun k34 h34 => c_rg <| r_mv rfl rfl <| r_mv rfl rfl <| r_im (hA.app _) Tryz.underlying47 (by kernel_rfl) rfl rfl rfl rfl (by omega) (by omega) <| r_li (i) (hA.app _) Tryz.underlying21 rfl rfl rfl (by omega) ?_; rotate_left)
    refine WX.pure rfl rfl (hsc _) rfl rfl ?_
    (refine r_nx h34 <| c_cT rfl <| c_rg <| r_mv rfl rfl <| r_mv rfl rfl <| r_mv rfl rfl <| r_im (hA.app _) Tryz.underlying47 (by kernel_rfl) rfl rfl rfl rfl (by omega) (by omega) <| r_li (i) (hA.app _) Tryz.underlying21 rfl rfl rfl (by omega) ?_; rotate_left)
    refine WX.call (m1 := []) (m2 := _) rfl rfl rfl (rbytes_spec (l.getD i 0) hc _ _) rfl rfl (fun q _ => ?_)
    refine r_am (xs := (runesBytes (l.take i)).data.toList) (ys := encB (l.getD i 0)) 1 (z := .int .u8 0) (by_ := 1) (f := fun b : UInt8 => .int .u8 b.toNat) Tryz.underlying75 (by kernel_rfl) rfl rfl rfl rfl (Rd.own 0 rfl) rfl (fun _ => rfl) (by omega) rfl (fun p2 _ => ?_)
    rw [← hs]
    (refine r_as rfl rfl <| r_nl <| WE.blk_n <| WE.then_n h32 <| c_rg <| r_mv rfl rfl <| r_ad rfl rfl rfl (wadd64 (by omega)) <| r_as rfl rfl <| r_nl ?_; rotate_left)
    exact WE.back (i + 1, p2) (by dsimp only; omega) (by dsimp only; omega) ⟨rfl, rfl, rfl, trivial⟩ (Mem.pick [1] (by decide) rfl)
  · have e : l.take i = l := List.take_of_length_le (by omega)
    rw [e]
    (refine c_sq fun k24 h24 => c_sq fun k26 h26 => c_rg <| r_mv rfl rfl <| r_mv rfl rfl <| r_ls Tryz.underlying47 rfl rfl <| r_ltF rfl rfl rfl (by omega) <| r_nx h26 <| c_cF rfl <| c_ex <| WE.then_x <| WE.then_x <| WE.blk_x <| WE.then_n h13 <| c_sq fun k28 h28 => c_rg <| r_mv rfl rfl ?_; rotate_left)
    refine r_cm rfl (fun w hw => conv_bytes (Rd.own 0 rfl) w hw) rfl ?_
    rw [strOf_self]
    (refine r_as rfl rfl <| r_nx h28 <| c_rt ?_; rotate_left)
    exact WE.ret1 () rfl rfl rfl trivial Mem.drop
end Go.Proofs.YtkggplnigjlegaaGreatDoor

/- The document's answer for single code points: the contracts of the reference's functions. -/
namespace Go.Proofs.YtkggplnigjlegaaGreatDoor
open Go.RowKit Go.Gp

set_option maxRecDepth 100000 in
set_option maxHeartbeats 1000000 in
theorem barred_spec (c : Int) (w0 : World) (m0 : List Res) : PureC Tryz.prog 99 [.int .i32 c] w0 m0 (.bool (barR c)) := by
  refine Ct.of Tryz.func99 rfl (by kernel_rfl) rfl ?_
  (refine c_sq fun k4 h4 => c_rg <| r_as rfl rfl <| r_nx h4 ?_)
  refine WC.cut (α := Unit) (fun _ => [(0, .int .i32 c)]) (fun _ => []) (fun _ => ¬ Bar1 c) ?_ ?_
  · (refine c_sq fun k6 h6 => c_rg <| r_mv rfl rfl ?_)
    refine WX.pure rfl rfl (scalar_spec c _ _) rfl rfl ?_
    by_cases hs : ScP c
    · rw [decide_eq_true hs]
      (refine r_no rfl rfl rfl <| r_mv rfl rfl <| r_mv rfl rfl <| r_geC rfl rfl rfl (fun _ => ?_) (fun _ => ?_); refine r_mv rfl rfl <| r_mv rfl rfl <| r_leC rfl rfl rfl (fun _ => ?_) (fun _ => ?_); refine r_pT rfl rfl rfl <| r_pF rfl rfl rfl <| r_mv rfl rfl <| r_sk rfl rfl <| r_sk rfl rfl <| r_pT rfl rfl rfl <| r_mv rfl rfl <| r_sk rfl rfl <| r_sk rfl rfl <| r_sk rfl rfl <| r_sk rfl rfl <| r_sk rfl rfl <| r_sk rfl rfl <| r_pT rfl rfl rfl <| r_mv rfl rfl <| r_sk rfl rfl <| r_sk rfl rfl <| r_pT rfl rfl rfl <| r_mv rfl rfl <| r_sk rfl rfl <| r_sk rfl rfl <| r_pT rfl rfl rfl <| r_nx h6 <| c_cT rfl <| c_sq fun k11 h11 => c_rg <| r_as rfl rfl <| r_nx h11 <| c_rt <| WE.then_r ?_; rotate_left; refine r_pT rfl rfl rfl <| r_pF rfl rfl rfl <| r_mv rfl rfl <| r_mv rfl rfl <| r_eqC rfl rfl rfl (fun _ => ?_) (fun _ => ?_); refine r_pF rfl rfl rfl <| r_mv rfl rfl <| r_sk rfl rfl <| r_sk rfl rfl <| r_sk rfl rfl <| r_sk rfl rfl <| r_sk rfl rfl <| r_sk rfl rfl <| r_pT rfl rfl rfl <| r_mv rfl rfl <| r_sk rfl rfl <| r_sk rfl rfl <| r_pT rfl rfl rfl <| r_mv rfl rfl <| r_sk rfl rfl <| r_sk rfl rfl <| r_pT rfl rfl rfl <| r_nx h6 <| c_cT rfl <| c_sq fun k12 h12 => c_rg <| r_as rfl rfl <| r_nx h12 <| c_rt <| WE.then_r ?_; rotate_left; refine r_pF rfl rfl rfl <| r_mv rfl rfl <| r_mv rfl rfl <| r_geC rfl rfl rfl (fun _ => ?_) (fun _ => ?_); refine r_mv rfl rfl <| r_mv rfl rfl <| r_leC rfl rfl rfl (fun _ => ?_) (fun _ => ?_); refine r_pT rfl rfl rfl <| r_pF rfl rfl rfl <| r_mv rfl rfl <| r_sk rfl rfl <| r_sk rfl rfl <| r_pT rfl rfl rfl <| r_mv rfl rfl <| r_sk rfl rfl <| r_sk rfl rfl <| r_pT rfl rfl rfl <| r_nx h6 <| c_cT rfl <| c_sq fun k14 h14 => c_rg <| r_as rfl rfl <| r_nx h14 <| c_rt <| WE.then_r ?_; rotate_left; refine r_pT rfl rfl rfl <| r_pF rfl rfl rfl <| r_mv rfl rfl <| r_mv rfl rfl <| r_eqC rfl rfl rfl (fun _ => ?_) (fun _ => ?_); refine r_pF rfl rfl rfl <| r_mv rfl rfl <| r_sk rfl rfl <| r_sk rfl rfl <| r_pT rfl rfl rfl <| r_nx h6 <| c_cT rfl <| c_sq fun k15 h15 => c_rg <| r_as rfl rfl <| r_nx h15 <| c_rt <| WE.then_r ?_; rotate_left; refine r_pF rfl rfl rfl <| r_mv rfl rfl <| r_mv rfl rfl <| r_eqC rfl rfl rfl (fun _ => ?_) (fun _ => ?_); refine r_pF rfl rfl rfl <| r_nx h6 <| c_cT rfl <| c_sq fun k16 h16 => c_rg <| r_as rfl rfl <| r_nx h16 <| c_rt <| WE.then_r ?_; rotate_left; refine r_pF rfl rfl rfl <| r_nx h6 <| c_cF rfl <| c_sk ?_; rotate_left; refine r_mv rfl rfl <| r_sk rfl rfl <| r_sk rfl rfl <| r_pF rfl rfl rfl <| r_pF rfl rfl rfl <| r_mv rfl rfl <| r_mv rfl rfl <| r_eqF rfl rfl rfl (by omega) <| r_pF rfl rfl rfl <| r_mv rfl rfl <| r_mv rfl rfl <| r_eqF rfl rfl rfl (by omega) <| r_pF rfl rfl rfl <| r_nx h6 <| c_cF rfl <| c_sk ?_; rotate_left; refine r_mv rfl rfl <| r_sk rfl rfl <| r_sk rfl rfl <| r_pF rfl rfl rfl <| r_pF rfl rfl rfl <| r_mv rfl rfl <| r_mv rfl rfl <| r_eqF rfl rfl rfl (by omega) <| r_pF rfl rfl rfl <| r_mv rfl rfl <| r_mv rfl rfl <| r_geF rfl rfl rfl (by omega) <| r_mv rfl rfl <| r_sk rfl rfl <| r_sk rfl rfl <| r_pF rfl rfl rfl <| r_pF rfl rfl rfl <| r_mv rfl rfl <| r_mv rfl rfl <| r_eqF rfl rfl rfl (by omega) <| r_pF rfl rfl rfl <| r_mv rfl rfl <| r_mv rfl rfl <| r_eqF rfl rfl rfl (by omega) <| r_pF rfl rfl rfl <| r_nx h6 <| c_cF rfl <| c_sk ?_; rotate_left)
      all_goals
        first
        | exact WE.ret1 () rfl rfl (by rw [barR_t (.inl (by omega))]; rfl) trivial Mem.drop
        | exact WE.met () (by omega) ⟨rfl, trivial⟩ Mem.keep
    · rw [decide_eq_false hs]
      (refine r_no rfl rfl rfl <| r_mv rfl rfl <| r_sk rfl rfl <| r_sk rfl rfl <| r_sk rfl rfl <| r_sk rfl rfl <| r_sk rfl rfl <| r_sk rfl rfl <| r_pT rfl rfl rfl <| r_mv rfl rfl <| r_sk rfl rfl <| r_sk rfl rfl <| r_pT rfl rfl rfl <| r_mv rfl rfl <| r_sk rfl rfl <| r_sk rfl rfl <| r_sk rfl rfl <| r_sk rfl rfl <| r_sk rfl rfl <| r_sk rfl rfl <| r_pT rfl rfl rfl <| r_mv rfl rfl <| r_sk rfl rfl <| r_sk rfl rfl <| r_pT rfl rfl rfl <| r_mv rfl rfl <| r_sk rfl rfl <| r_sk rfl rfl <| r_pT rfl rfl rfl <| r_nx h6 <| c_cT rfl <| c_sq fun k9 h9 => c_rg <| r_as rfl rfl <| r_nx h9 <| c_rt <| WE.then_r ?_; rotate_left)
      exact WE.ret1 () rfl rfl (by rw [barR_t (.inl (.inl hs))]; rfl) trivial Mem.drop
  · rintro _ hb
    (refine c_sq fun k8 h8 => c_rg <| r_mv rfl rfl <| r_geC rfl rfl rfl (fun _ => ?_) (fun _ => ?_); refine r_mv rfl rfl <| r_mv rfl rfl <| r_leC rfl rfl rfl (fun _ => ?_) (fun _ => ?_); refine r_pT rfl rfl rfl <| r_mv rfl rfl <| r_sk rfl rfl <| r_sk rfl rfl <| r_pT rfl rfl rfl <| r_mv rfl rfl <| r_sk rfl rfl <| r_sk rfl rfl <| r_sk rfl rfl <| r_sk rfl rfl <| r_sk rfl rfl <| r_sk rfl rfl <| r_pT rfl rfl rfl <| r_mv rfl rfl <| r_sk rfl rfl <| r_sk rfl rfl <| r_sk rfl rfl <| r_sk rfl rfl <| r_sk rfl rfl <| r_sk rfl rfl <| r_pT rfl rfl rfl <| r_mv rfl rfl <| r_sk rfl rfl <| r_sk rfl rfl <| r_sk rfl rfl <| r_sk rfl rfl <| r_sk rfl rfl <| r_sk rfl rfl <| r_pT rfl rfl rfl <| r_mv rfl rfl <| r_sk rfl rfl <| r_sk rfl rfl <| r_sk rfl rfl <| r_sk rfl rfl <| r_sk rfl rfl <| r_sk rfl rfl <| r_pT rfl rfl rfl <| r_mv rfl rfl <| r_sk rfl rfl <| r_sk rfl rfl <| r_pT rfl rfl rfl <| r_as rfl rfl <| r_nx h8 <| c_rt ?_; rotate_left; refine r_pT rfl rfl rfl <| r_mv rfl rfl <| r_mv rfl rfl <| r_eqC rfl rfl rfl (fun _ => ?_) (fun _ => ?_); refine r_pF rfl rfl rfl <| r_mv rfl rfl <| r_sk rfl rfl <| r_sk rfl rfl <| r_sk rfl rfl <| r_sk rfl rfl <| r_sk rfl rfl <| r_sk rfl rfl <| r_pT rfl rfl rfl <| r_mv rfl rfl <| r_sk rfl rfl <| r_sk rfl rfl <| r_sk rfl rfl <| r_sk rfl rfl <| r_sk rfl rfl <| r_sk rfl rfl <| r_pT rfl rfl rfl <| r_mv rfl rfl <| r_sk rfl rfl <| r_sk rfl rfl <| r_sk rfl rfl <| r_sk rfl rfl <| r_sk rfl rfl <| r_sk rfl rfl <| r_pT rfl rfl rfl <| r_mv rfl rfl <| r_sk rfl rfl <| r_sk rfl rfl <| r_sk rfl rfl <| r_sk rfl rfl <| r_sk rfl rfl <| r_sk rfl rfl <| r_pT rfl rfl rfl <| r_mv rfl rfl <| r_sk rfl rfl <| r_sk rfl rfl <| r_pT rfl rfl rfl <| r_as rfl rfl <| r_nx h8 <| c_rt ?_; rotate_left; refine r_pF rfl rfl rfl <| r_mv rfl rfl <| r_mv rfl rfl <| r_geC rfl rfl rfl (fun _ => ?_) (fun _ => ?_); refine r_mv rfl rfl <| r_mv rfl rfl <| r_leC rfl rfl rfl (fun _ => ?_) (fun _ => ?_); refine r_pT rfl rfl rfl <| r_pF rfl rfl rfl <| r_mv rfl rfl <| r_sk rfl rfl <| r_sk rfl rfl <| r_sk rfl rfl <| r_sk rfl rfl <| r_sk rfl rfl <| r_sk rfl rfl <| r_pT rfl rfl rfl <| r_mv rfl rfl <| r_sk rfl rfl <| r_sk rfl rfl <| r_sk rfl rfl <| r_sk rfl rfl <| r_sk rfl rfl <| r_sk rfl rfl <| r_pT rfl rfl rfl <| r_mv rfl rfl <| r_sk rfl rfl <| r_sk rfl rfl <| r_sk rfl rfl <| r_sk rfl rfl <| r_sk rfl rfl <| r_sk rfl rfl <| r_pT rfl rfl rfl <| r_mv rfl rfl <| r_sk rfl rfl <| r_sk rfl rfl <| r_pT rfl rfl rfl <| r_as rfl rfl <| r_nx h8 <| c_rt ?_; rotate_left; refine r_pT rfl rfl rfl <| r_pF rfl rfl rfl <| r_mv rfl rfl <| r_mv rfl rfl <| r_geC rfl rfl rfl (fun _ => ?_) (fun _ => ?_); refine r_mv rfl rfl <| r_mv rfl rfl <| r_leC rfl rfl rfl (fun _ => ?_) (fun _ => ?_); refine r_pT rfl rfl rfl <| r_pF rfl rfl rfl <| r_mv rfl rfl <| r_sk rfl rfl <| r_sk rfl rfl <| r_sk rfl rfl <| r_sk rfl rfl <| r_sk rfl rfl <| r_sk rfl rfl <| r_pT rfl rfl rfl <| r_mv rfl rfl <| r_sk rfl rfl <| r_sk rfl rfl <| r_sk rfl rfl <| r_sk rfl rfl <| r_sk rfl rfl <| r_sk rfl rfl <| r_pT rfl rfl rfl <| r_mv rfl rfl <| r_sk rfl rfl <| r_sk rfl rfl <| r_pT rfl rfl rfl <| r_as rfl rfl <| r_nx h8 <| c_rt ?_; rotate_left; refine r_pT rfl rfl rfl <| r_pF rfl rfl rfl <| r_mv rfl rfl <| r_mv rfl rfl <| r_geC rfl rfl rfl (fun _ => ?_) (fun _ => ?_); refine r_mv rfl rfl <| r_mv rfl rfl <| r_leC rfl rfl rfl (fun _ => ?_) (fun _ => ?_); refine r_pT rfl rfl rfl <| r_pF rfl rfl rfl <| r_mv rfl rfl <| r_sk rfl rfl <| r_sk rfl rfl <| r_sk rfl rfl <| r_sk rfl rfl <| r_sk rfl rfl <| r_sk rfl rfl <| r_pT rfl rfl rfl <| r_mv rfl rfl <| r_sk rfl rfl <| r_sk rfl rfl <| r_pT rfl rfl rfl <| r_as rfl rfl <| r_nx h8 <| c_rt ?_; rotate_left; refine r_pT rfl rfl rfl <| r_pF rfl rfl rfl <| r_mv rfl rfl <| r_mv rfl rfl <| r_geC rfl rfl rfl (fun _ => ?_) (fun _ => ?_); refine r_mv rfl rfl <| r_mv rfl rfl <| r_leC rfl rfl rfl (fun _ => ?_) (fun _ => ?_); refine r_pT rfl rfl rfl <| r_pF rfl rfl rfl <| r_mv rfl rfl <| r_sk rfl rfl <| r_sk rfl rfl <| r_pT rfl rfl rfl <| r_as rfl rfl <| r_nx h8 <| c_rt ?_; rotate_left; refine r_pT rfl rfl rfl <| r_pF rfl rfl rfl <| r_mv rfl rfl <| r_mv rfl rfl <| r_geC rfl rfl rfl (fun _ => ?_) (fun _ => ?_); refine r_pF rfl rfl rfl <| r_as rfl rfl <| r_nx h8 <| c_rt ?_; rotate_left; refine r_pF rfl rfl rfl <| r_as rfl rfl <| r_nx h8 <| c_rt ?_; rotate_left; refine r_mv rfl rfl <| r_sk rfl rfl <| r_sk rfl rfl <| r_pF rfl rfl rfl <| r_pF rfl rfl rfl <| r_mv rfl rfl <| r_mv rfl rfl <| r_geF rfl rfl rfl (by omega) <| r_pF rfl rfl rfl <| r_as rfl rfl <| r_nx h8 <| c_rt ?_; rotate_left; refine r_mv rfl rfl <| r_sk rfl rfl <| r_sk rfl rfl <| r_pF rfl rfl rfl <| r_pF rfl rfl rfl <| r_mv rfl rfl <| r_mv rfl rfl <| r_geF rfl rfl rfl (by omega) <| r_mv rfl rfl <| r_sk rfl rfl <| r_sk rfl rfl <| r_pF rfl rfl rfl <| r_pF rfl rfl rfl <| r_mv rfl rfl <| r_mv rfl rfl <| r_geF rfl rfl rfl (by omega) <| r_pF rfl rfl rfl <| r_as rfl rfl <| r_nx h8 <| c_rt ?_; rotate_left; refine r_mv rfl rfl <| r_sk rfl rfl <| r_sk rfl rfl <| r_pF rfl rfl rfl <| r_pF rfl rfl rfl <| r_mv rfl rfl <| r_mv rfl rfl <| r_geF rfl rfl rfl (by omega) <| r_mv rfl rfl <| r_sk rfl rfl <| r_sk rfl rfl <| r_pF rfl rfl rfl <| r_pF rfl rfl rfl <| r_mv rfl rfl <| r_mv rfl rfl <| r_geF rfl rfl rfl (by omega) <| r_mv rfl rfl <| r_sk rfl rfl <| r_sk rfl rfl <| r_pF rfl rfl rfl <| r_pF rfl rfl rfl <| r_mv rfl rfl <| r_mv rfl rfl <| r_geF rfl rfl rfl (by omega) <| r_pF rfl rfl rfl <| r_as rfl rfl <| r_nx h8 <| c_rt ?_; rotate_left; refine r_mv rfl rfl <| r_sk rfl rfl <| r_sk rfl rfl <| r_pF rfl rfl rfl <| r_pF rfl rfl rfl <| r_mv rfl rfl <| r_mv rfl rfl <| r_geF rfl rfl rfl (by omega) <| r_mv rfl rfl <| r_sk rfl rfl <| r_sk rfl rfl <| r_pF rfl rfl rfl <| r_pF rfl rfl rfl <| r_mv rfl rfl <| r_mv rfl rfl <| r_geF rfl rfl rfl (by omega) <| r_mv rfl rfl <| r_sk rfl rfl <| r_sk rfl rfl <| r_pF rfl rfl rfl <| r_pF rfl rfl rfl <| r_mv rfl rfl <| r_mv rfl rfl <| r_geF rfl rfl rfl (by omega) <| r_mv rfl rfl <| r_sk rfl rfl <| r_sk rfl rfl <| r_pF rfl rfl rfl <| r_pF rfl rfl rfl <| r_mv rfl rfl <| r_mv rfl rfl <| r_geF rfl rfl rfl (by omega) <| r_pF rfl rfl rfl <| r_as rfl rfl <| r_nx h8 <| c_rt ?_; rotate_left; refine r_mv rfl rfl <| r_sk rfl rfl <| r_sk rfl rfl <| r_pF rfl rfl rfl <| r_mv rfl rfl <| r_mv rfl rfl <| r_eqF rfl rfl rfl (by omega) <| r_pF rfl rfl rfl <| r_mv rfl rfl <| r_mv rfl rfl <| r_geF rfl rfl rfl (by omega) <| r_mv rfl rfl <| r_sk rfl rfl <| r_sk rfl rfl <| r_pF rfl rfl rfl <| r_pF rfl rfl rfl <| r_mv rfl rfl <| r_mv rfl rfl <| r_geF rfl rfl rfl (by omega) <| r_mv rfl rfl <| r_sk rfl rfl <| r_sk rfl rfl <| r_pF rfl rfl rfl <| r_pF rfl rfl rfl <| r_mv rfl rfl <| r_mv rfl rfl <| r_geF rfl rfl rfl (by omega) <| r_mv rfl rfl <| r_sk rfl rfl <| r_sk rfl rfl <| r_pF rfl rfl rfl <| r_pF rfl rfl rfl <| r_mv rfl rfl <| r_mv rfl rfl <| r_geF rfl rfl rfl (by omega) <| r_mv rfl rfl <| r_sk rfl rfl <| r_sk rfl rfl <| r_pF rfl rfl rfl <| r_pF rfl rfl rfl <| r_mv rfl rfl <| r_mv rfl rfl <| r_geF rfl rfl rfl (by omega) <| r_pF rfl rfl rfl <| r_as rfl rfl <| r_nx h8 <| c_rt ?_; rotate_left)
    all_goals
      first
      | exact WE.ret1 () rfl rfl (by rw [barR_t (.inr (by omega))]; rfl) trivial Mem.drop
      | exact WE.ret1 () rfl rfl (by rw [barR_f (by omega)]; rfl) trivial Mem.drop

abbrev RMapS (c : Int) (w0 : World) (m0 : List Res) : Prop := Ct (α := Option Addr × Nat) Tryz.prog 67 [.int .i32 c] w0 [] m0 (fun _ => True) (fun p => .tuple #[SlR p (refMap c).1, .bool (refMap c).2]) (fun p => [OwnR p (refMap c).1])

set_option maxRecDepth 100000 in
set_option maxHeartbeats 2000000 in
theorem refmap_spec (c : Int) (w0 : World) (m0 : List Res) : RMapS c w0 m0 := by
  refine Ct.of Tryz.func67 rfl (by kernel_rfl) rfl ?_
  (refine c_sq fun k4 h4 => c_rg <| r_as rfl rfl <| r_as rfl rfl <| r_nx h4 ?_)
  refine WC.cut (α := Unit) (fun _ => [(0, .int .i32 c)]) (fun _ => []) (fun _ => barR c = false) ?_ ?_
  · (refine c_sq fun k6 h6 => c_rg <| r_mv rfl rfl ?_)
    rcases Bool.eq_false_or_eq_true (barR c) with hb | hb
    · refine WX.pure rfl rfl (v := .bool true) (by rw [← hb]; exact barred_spec c _ _) rfl rfl ?_
      (refine r_nx h6 <| c_cT rfl <| c_sq fun k9 h9 => c_rg <| r_as rfl rfl <| r_as rfl rfl <| r_nx h9 <| c_rt <| WE.then_r ?_; rotate_left)
      have e : refMap c = ([], false) := by simp [refMap, hb]
      exact WE.ret2 (none, 0) rfl rfl rfl rfl (by rw [e]; rfl) trivial (by rw [e]; exact Mem.nilOwn _ _)
    · refine WX.pure rfl rfl (v := .bool false) (by rw [← hb]; exact barred_spec c _ _) rfl rfl ?_
      (refine r_nx h6 <| c_cF rfl <| c_sk ?_; rotate_left)
      exact WE.met () hb ⟨rfl, trivial⟩ Mem.keep
  · rintro _ hb
    have hc : 0 ≤ c ∧ c ≤ 917503 := by
      have := of_decide_eq_false hb
      omega
    refine WC.cut (α := Unit) (fun _ => [(0, .int .i32 c)]) (fun _ => []) (fun _ => ¬ (c = 173 ∨ c = 8203 ∨ c = 8288 ∨ c = 65279)) ?_ ?_
    · (refine c_sq fun k9 h9 => c_rg <| r_mv rfl rfl <| r_eqC rfl rfl rfl (fun _ => ?_) (fun _ => ?_); refine r_mv rfl rfl <| r_sk rfl rfl <| r_sk rfl rfl <| r_pT rfl rfl rfl <| r_mv rfl rfl <| r_sk rfl rfl <| r_sk rfl rfl <| r_pT rfl rfl rfl <| r_mv rfl rfl <| r_sk rfl rfl <| r_sk rfl rfl <| r_pT rfl rfl rfl <| r_nx h9 <| c_cT rfl <| c_sq fun k12 h12 => c_rg <| r_as rfl rfl <| r_as rfl rfl <| r_nx h12 <| c_rt <| WE.then_r ?_; rotate_left; refine r_mv rfl rfl <| r_mv rfl rfl <| r_eqC rfl rfl rfl (fun _ => ?_) (fun _ => ?_); refine r_pF rfl rfl rfl <| r_mv rfl rfl <| r_sk rfl rfl <| r_sk rfl rfl <| r_pT rfl rfl rfl <| r_mv rfl rfl <| r_sk rfl rfl <| r_sk rfl rfl <| r_pT rfl rfl rfl <| r_nx h9 <| c_cT rfl <| c_sq fun k13 h13 => c_rg <| r_as rfl rfl <| r_as rfl rfl <| r_nx h13 <| c_rt <| WE.then_r ?_; rotate_left; refine r_pF rfl rfl rfl <| r_mv rfl rfl <| r_mv rfl rfl <| r_eqC rfl rfl rfl (fun _ => ?_) (fun _ => ?_); refine r_pF rfl rfl rfl <| r_mv rfl rfl <| r_sk rfl rfl <| r_sk rfl rfl <| r_pT rfl rfl rfl <| r_nx h9 <| c_cT rfl <| c_sq fun k14 h14 => c_rg <| r_as rfl rfl <| r_as rfl rfl <| r_nx h14 <| c_rt <| WE.then_r ?_; rotate_left; refine r_pF rfl rfl rfl <| r_mv rfl rfl <| r_mv rfl rfl <| r_eqC rfl rfl rfl (fun _ => ?_) (fun _ => ?_); refine r_pF rfl rfl rfl <| r_nx h9 <| c_cT rfl <| c_sq fun k15 h15 => c_rg <| r_as rfl rfl <| r_as rfl rfl <| r_nx h15 <| c_rt <| WE.then_r ?_; rotate_left; refine r_pF rfl rfl rfl <| r_nx h9 <| c_cF rfl <| c_sk ?_; rotate_left)
      all_goals
        first
        | exact WE.met () (by omega) ⟨rfl, trivial⟩ Mem.keep
        | (have e : refMap c = ([], true) := by simp only [refMap, hb]; rw [if_neg (by decide), if_pos (by omega)]
           exact WE.ret2 (none, 0) rfl rfl rfl rfl (by rw [e]; rfl) trivial (by rw [e]; exact Mem.nilOwn _ _))
    · rintro _ h1
      refine WC.cut (α := Unit) (fun _ => [(0, .int .i32 c)]) (fun _ => []) (fun _ => ¬ (c = 12290 ∨ c = 65377)) ?_ ?_
      · (refine c_sq fun k11 h11 => c_rg <| r_mv rfl rfl <| r_eqC rfl rfl rfl (fun _ => ?_) (fun _ => ?_); refine r_mv rfl rfl <| r_sk rfl rfl <| r_sk rfl rfl <| r_pT rfl rfl rfl <| r_nx h11 <| c_cT rfl <| c_sq fun k14 h14 => c_rg <| r_bo Tryz.underlying47 rfl (fun _ => by kernel_rfl) rfl rfl rfl (fun _ => ?_); refine r_as rfl rfl <| r_as rfl rfl <| r_nx h14 <| c_rt <| WE.then_r ?_; rotate_left; refine r_mv rfl rfl <| r_mv rfl rfl <| r_eqC rfl rfl rfl (fun _ => ?_) (fun _ => ?_); refine r_pF rfl rfl rfl <| r_nx h11 <| c_cT rfl <| c_sq fun k15 h15 => c_rg <| r_bo Tryz.underlying47 rfl (fun _ => by kernel_rfl) rfl rfl rfl (fun _ => ?_); refine r_as rfl rfl <| r_as rfl rfl <| r_nx h15 <| c_rt <| WE.then_r ?_; rotate_left; refine r_pF rfl rfl rfl <| r_nx h11 <| c_cF rfl <| c_sk ?_; rotate_left)
        all_goals
          first
          | exact WE.met () (by omega) ⟨rfl, trivial⟩ Mem.keep
          | (have e : refMap c = ([46], true) := by simp only [refMap, hb]; rw [if_neg (by decide), if_neg (by omega), if_pos (by omega)]
             exact WE.ret2 (some ⟨_, 0, none⟩, 1) rfl rfl rfl rfl (by rw [e]; rfl) trivial (by rw [e]; exact Mem.keep))
      · rintro _ h2
        obtain ⟨c', hc'⟩ : ∃ c', (if 65281 ≤ c ∧ c ≤ 65374 then c - 65248 else c) = c' := ⟨_, rfl⟩
        have e0 : refMap c = (refMap1 c', true) := by simp only [refMap, hb]; rw [if_neg (by decide), if_neg h1, if_neg h2, hc']
        rw [e0]
        have hb' : 0 ≤ c' ∧ c' ≤ 917503 := by rw [← hc']; split <;> omega
        refine WC.cut (α := Unit) (fun _ => [(0, .int .i32 c')]) (fun _ => []) (fun _ => True) ?_ ?_
        · (refine c_sq fun k17 h17 => c_rg <| r_mv rfl rfl <| r_geC rfl rfl rfl (fun _ => ?_) (fun _ => ?_); refine r_mv rfl rfl <| r_mv rfl rfl <| r_leC rfl rfl rfl (fun _ => ?_) (fun _ => ?_); refine r_pT rfl rfl rfl <| r_nx h17 <| c_cT rfl <| c_rg <| r_mv rfl rfl <| r_su rfl rfl rfl (wsub32 (by omega)) <| r_as rfl rfl <| r_nl ?_; rotate_left; refine r_pT rfl rfl rfl <| r_nx h17 <| c_cF rfl <| c_sk ?_; rotate_left; refine r_mv rfl rfl <| r_sk rfl rfl <| r_sk rfl rfl <| r_pF rfl rfl rfl <| r_nx h17 <| c_cF rfl <| c_sk ?_; rotate_left)
          all_goals
            first
            | (have e1 : c' = c - 65248 := by rw [← hc', if_pos (by omega)]
               subst e1
               exact WE.met () trivial ⟨rfl, trivial⟩ Mem.keep)
            | (have e1 : c' = c := by rw [← hc', if_neg (by omega)]
               subst e1
               exact WE.met () trivial ⟨rfl, trivial⟩ Mem.keep)
        · rintro _ _
          clear e0 hc'
          refine WC.cut (α := Unit) (fun _ => [(0, .int .i32 c')]) (fun _ => []) (fun _ => ¬ ((65 ≤ c' ∧ c' ≤ 90) ∨ (192 ≤ c' ∧ c' ≤ 222 ∧ c' ≠ 215) ∨ (913 ≤ c' ∧ c' ≤ 937 ∧ c' ≠ 930) ∨ (1040 ≤ c' ∧ c' ≤ 1071))) ?_ ?_
          · (refine c_sq fun k19 h19 => c_rg <| r_mv rfl rfl <| r_geC rfl rfl rfl (fun _ => ?_) (fun _ => ?_); refine r_mv rfl rfl <| r_mv rfl rfl <| r_leC rfl rfl rfl (fun _ => ?_) (fun _ => ?_); refine r_pT rfl rfl rfl <| r_mv rfl rfl <| r_sk rfl rfl <| r_sk rfl rfl <| r_sk rfl rfl <| r_sk rfl rfl <| r_sk rfl rfl <| r_sk rfl rfl <| r_sk rfl rfl <| r_sk rfl rfl <| r_sk rfl rfl <| r_sk rfl rfl <| r_pT rfl rfl rfl <| r_mv rfl rfl <| r_sk rfl rfl <| r_sk rfl rfl <| r_sk rfl rfl <| r_sk rfl rfl <| r_sk rfl rfl <| r_sk rfl rfl <| r_sk rfl rfl <| r_sk rfl rfl <| r_sk rfl rfl <| r_sk rfl rfl <| r_pT rfl rfl rfl <| r_mv rfl rfl <| r_sk rfl rfl <| r_sk rfl rfl <| r_sk rfl rfl <| r_sk rfl rfl <| r_sk rfl rfl <| r_sk rfl rfl <| r_pT rfl rfl rfl <| r_nx h19 <| c_cT rfl <| c_sq fun k23 h23 => c_rg <| r_mv rfl rfl <| r_ad rfl rfl rfl (wadd32 (by omega)) <| r_bo Tryz.underlying47 rfl (fun _ => by kernel_rfl) rfl rfl rfl (fun _ => ?_); refine r_as rfl rfl <| r_as rfl rfl <| r_nx h23 <| c_rt <| WE.then_r ?_; rotate_left; refine r_pT rfl rfl rfl <| r_mv rfl rfl <| r_mv rfl rfl <| r_geC rfl rfl rfl (fun _ => ?_) (fun _ => ?_); refine r_mv rfl rfl <| r_mv rfl rfl <| r_leC rfl rfl rfl (fun _ => ?_) (fun _ => ?_); refine r_pT rfl rfl rfl <| r_mv rfl rfl <| r_mv rfl rfl <| r_neC rfl rfl rfl (fun _ => ?_) (fun _ => ?_); refine r_pT rfl rfl rfl <| r_pF rfl rfl rfl <| r_mv rfl rfl <| r_sk rfl rfl <| r_sk rfl rfl <| r_sk rfl rfl <| r_sk rfl rfl <| r_sk rfl rfl <| r_sk rfl rfl <| r_sk rfl rfl <| r_sk rfl rfl <| r_sk rfl rfl <| r_sk rfl rfl <| r_pT rfl rfl rfl <| r_mv rfl rfl <| r_sk rfl rfl <| r_sk rfl rfl <| r_sk rfl rfl <| r_sk rfl rfl <| r_sk rfl rfl <| r_sk rfl rfl <| r_pT rfl rfl rfl <| r_nx h19 <| c_cT rfl <| c_sq fun k26 h26 => c_rg <| r_mv rfl rfl <| r_ad rfl rfl rfl (wadd32 (by omega)) <| r_bo Tryz.underlying47 rfl (fun _ => by kernel_rfl) rfl rfl rfl (fun _ => ?_); refine r_as rfl rfl <| r_as rfl rfl <| r_nx h26 <| c_rt <| WE.then_r ?_; rotate_left; refine r_pT rfl rfl rfl <| r_pF rfl rfl rfl <| r_mv rfl rfl <| r_mv rfl rfl <| r_geF rfl rfl rfl (by omega) <| r_mv rfl rfl <| r_sk rfl rfl <| r_sk rfl rfl <| r_pF rfl rfl rfl <| r_mv rfl rfl <| r_sk rfl rfl <| r_sk rfl rfl <| r_pF rfl rfl rfl <| r_pF rfl rfl rfl <| r_mv rfl rfl <| r_mv rfl rfl <| r_geF rfl rfl rfl (by omega) <| r_mv rfl rfl <| r_sk rfl rfl <| r_sk rfl rfl <| r_pF rfl rfl rfl <| r_pF rfl rfl rfl <| r_nx h19 <| c_cF rfl <| c_sk ?_; rotate_left; refine r_pT rfl rfl rfl <| r_mv rfl rfl <| r_sk rfl rfl <| r_sk rfl rfl <| r_pF rfl rfl rfl <| r_pF rfl rfl rfl <| r_mv rfl rfl <| r_mv rfl rfl <| r_geC rfl rfl rfl (fun _ => ?_) (fun _ => ?_); refine r_mv rfl rfl <| r_mv rfl rfl <| r_leC rfl rfl rfl (fun _ => ?_) (fun _ => ?_); refine r_pT rfl rfl rfl <| r_mv rfl rfl <| r_mv rfl rfl <| r_neC rfl rfl rfl (fun _ => ?_) (fun _ => ?_); refine r_pT rfl rfl rfl <| r_pF rfl rfl rfl <| r_mv rfl rfl <| r_sk rfl rfl <| r_sk rfl rfl <| r_sk rfl rfl <| r_sk rfl rfl <| r_sk rfl rfl <| r_sk rfl rfl <| r_pT rfl rfl rfl <| r_nx h19 <| c_cT rfl <| c_sq fun k28 h28 => c_rg <| r_mv rfl rfl <| r_ad rfl rfl rfl (wadd32 (by omega)) <| r_bo Tryz.underlying47 rfl (fun _ => by kernel_rfl) rfl rfl rfl (fun _ => ?_); refine r_as rfl rfl <| r_as rfl rfl <| r_nx h28 <| c_rt <| WE.then_r ?_; rotate_left; refine r_pT rfl rfl rfl <| r_pF rfl rfl rfl <| r_mv rfl rfl <| r_mv rfl rfl <| r_geF rfl rfl rfl (by omega) <| r_mv rfl rfl <| r_sk rfl rfl <| r_sk rfl rfl <| r_pF rfl rfl rfl <| r_pF rfl rfl rfl <| r_nx h19 <| c_cF rfl <| c_sk ?_; rotate_left; refine r_pT rfl rfl rfl <| r_mv rfl rfl <| r_sk rfl rfl <| r_sk rfl rfl <| r_pF rfl rfl rfl <| r_pF rfl rfl rfl <| r_mv rfl rfl <| r_mv rfl rfl <| r_geC rfl rfl rfl (fun _ => ?_) (fun _ => ?_); refine r_mv rfl rfl <| r_mv rfl rfl <| r_leC rfl rfl rfl (fun _ => ?_) (fun _ => ?_); refine r_pT rfl rfl rfl <| r_pF rfl rfl rfl <| r_nx h19 <| c_cT rfl <| c_sq fun k29 h29 => c_rg <| r_mv rfl rfl <| r_ad rfl rfl rfl (wadd32 (by omega)) <| r_bo Tryz.underlying47 rfl (fun _ => by kernel_rfl) rfl rfl rfl (fun _ => ?_); refine r_as rfl rfl <| r_as rfl rfl <| r_nx h29 <| c_rt <| WE.then_r ?_; rotate_left; refine r_pT rfl rfl rfl <| r_pF rfl rfl rfl <| r_nx h19 <| c_cF rfl <| c_sk ?_; rotate_left; refine r_mv rfl rfl <| r_sk rfl rfl <| r_sk rfl rfl <| r_pF rfl rfl rfl <| r_pF rfl rfl rfl <| r_nx h19 <| c_cF rfl <| c_sk ?_; rotate_left; refine r_mv rfl rfl <| r_sk rfl rfl <| r_sk rfl rfl <| r_pF rfl rfl rfl <| r_mv rfl rfl <| r_sk rfl rfl <| r_sk rfl rfl <| r_pF rfl rfl rfl <| r_pF rfl rfl rfl <| r_mv rfl rfl <| r_mv rfl rfl <| r_geF rfl rfl rfl (by omega) <| r_mv rfl rfl <| r_sk rfl rfl <| r_sk rfl rfl <| r_pF rfl rfl rfl <| r_pF rfl rfl rfl <| r_nx h19 <| c_cF rfl <| c_sk ?_; rotate_left; refine r_mv rfl rfl <| r_sk rfl rfl <| r_sk rfl rfl <| r_pF rfl rfl rfl <| r_mv rfl rfl <| r_sk rfl rfl <| r_sk rfl rfl <| r_pF rfl rfl rfl <| r_pF rfl rfl rfl <| r_mv rfl rfl <| r_mv rfl rfl <| r_geF rfl rfl rfl (by omega) <| r_mv rfl rfl <| r_sk rfl rfl <| r_sk rfl rfl <| r_pF rfl rfl rfl <| r_mv rfl rfl <| r_sk rfl rfl <| r_sk rfl rfl <| r_pF rfl rfl rfl <| r_pF rfl rfl rfl <| r_mv rfl rfl <| r_mv rfl rfl <| r_geF rfl rfl rfl (by omega) <| r_mv rfl rfl <| r_sk rfl rfl <| r_sk rfl rfl <| r_pF rfl rfl rfl <| r_pF rfl rfl rfl <| r_nx h19 <| c_cF rfl <| c_sk ?_; rotate_left; refine r_mv rfl rfl <| r_sk rfl rfl <| r_sk rfl rfl <| r_pF rfl rfl rfl <| r_mv rfl rfl <| r_mv rfl rfl <| r_geF rfl rfl rfl (by omega) <| r_mv rfl rfl <| r_sk rfl rfl <| r_sk rfl rfl <| r_pF rfl rfl rfl <| r_mv rfl rfl <| r_sk rfl rfl <| r_sk rfl rfl <| r_pF rfl rfl rfl <| r_pF rfl rfl rfl <| r_mv rfl rfl <| r_mv rfl rfl <| r_geF rfl rfl rfl (by omega) <| r_mv rfl rfl <| r_sk rfl rfl <| r_sk rfl rfl <| r_pF rfl rfl rfl <| r_mv rfl rfl <| r_sk rfl rfl <| r_sk rfl rfl <| r_pF rfl rfl rfl <| r_pF rfl rfl rfl <| r_mv rfl rfl <| r_mv rfl rfl <| r_geF rfl rfl rfl (by omega) <| r_mv rfl rfl <| r_sk rfl rfl <| r_sk rfl rfl <| r_pF rfl rfl rfl <| r_pF rfl rfl rfl <| r_nx h19 <| c_cF rfl <| c_sk ?_; rotate_left)
            all_goals
              first
              | exact WE.met () (by omega) ⟨rfl, trivial⟩ Mem.keep
              | (have e : refMap1 c' = [c' + 32] := if_pos (by omega)
                 exact WE.ret2 (some ⟨_, 0, none⟩, 1) rfl rfl rfl rfl (by rw [e]; rfl) trivial (by rw [e]; exact Mem.keep))
          · rintro _ h3
            (refine c_sq fun k21 h21 => c_sq fun k23 h23 => c_rg <| r_mv rfl rfl <| r_geC rfl rfl rfl (fun _ => ?_) (fun _ => ?_); refine r_mv rfl rfl <| r_mv rfl rfl <| r_leC rfl rfl rfl (fun _ => ?_) (fun _ => ?_); refine r_pT rfl rfl rfl <| r_nx h23 <| c_cT rfl <| c_sq fun k27 h27 => c_rg <| r_mv rfl rfl <| r_ad rfl rfl rfl (wadd32 (by omega)) <| r_bo Tryz.underlying47 rfl (fun _ => by kernel_rfl) rfl rfl rfl (fun _ => ?_); refine r_as rfl rfl <| r_as rfl rfl <| r_nx h27 <| c_rt <| WE.then_r ?_; rotate_left; refine r_pT rfl rfl rfl <| r_nx h23 <| c_cF rfl <| c_sk <| WE.then_n h21 <| c_sq fun k27 h27 => c_sq fun k29 h29 => c_rg <| r_mv rfl rfl <| r_eqC rfl rfl rfl (fun _ => ?_) (fun _ => ?_); refine r_nx h29 <| c_cT rfl <| c_sq fun k32 h32 => c_rg <| r_bo Tryz.underlying47 rfl (fun _ => by kernel_rfl) rfl rfl rfl (fun _ => ?_); refine r_as rfl rfl <| r_as rfl rfl <| r_nx h32 <| c_rt <| WE.then_r ?_; rotate_left; refine r_nx h29 <| c_cF rfl <| c_sk <| WE.then_n h27 <| c_sq fun k32 h32 => c_rg <| r_mv rfl rfl <| r_bo Tryz.underlying47 rfl (fun _ => by kernel_rfl) rfl rfl rfl (fun _ => ?_); refine r_as rfl rfl <| r_as rfl rfl <| r_nx h32 <| c_rt ?_; rotate_left; refine r_mv rfl rfl <| r_sk rfl rfl <| r_sk rfl rfl <| r_pF rfl rfl rfl <| r_nx h23 <| c_cF rfl <| c_sk <| WE.then_n h21 <| c_sq fun k26 h26 => c_sq fun k28 h28 => c_rg <| r_mv rfl rfl <| r_eqF rfl rfl rfl (by omega) <| r_nx h28 <| c_cF rfl <| c_sk <| WE.then_n h26 <| c_sq fun k30 h30 => c_rg <| r_mv rfl rfl <| r_bo Tryz.underlying47 rfl (fun _ => by kernel_rfl) rfl rfl rfl (fun _ => ?_); refine r_as rfl rfl <| r_as rfl rfl <| r_nx h30 <| c_rt ?_; rotate_left)
            all_goals
              first
              | (have e : refMap1 c' = [c' + 80] := by unfold refMap1; rw [if_neg h3, if_pos (by omega)]
                 exact WE.ret2 (some ⟨_, 0, none⟩, 1) rfl rfl rfl rfl (by rw [e]; rfl) trivial (by rw [e]; exact Mem.keep))
              | (have e : refMap1 c' = [115, 115] := by unfold refMap1; rw [if_neg h3, if_neg (by omega), if_pos (by omega)]
                 exact WE.ret2 (some ⟨_, 0, none⟩, 2) rfl rfl rfl rfl (by rw [e]; rfl) trivial (by rw [e]; exact Mem.keep))
              | (have e : refMap1 c' = [c'] := by unfold refMap1; rw [if_neg h3, if_neg (by omega), if_neg (by omega)]
                 exact WE.ret2 (some ⟨_, 0, none⟩, 1) rfl rfl rfl rfl (by rw [e]; rfl) trivial (by rw [e]; exact Mem.keep))
end Go.Proofs.YtkggplnigjlegaaGreatDoor

/- The document's made, Compose, Fold of layer 5: the walks. -/
namespace Go.Proofs.YtkggplnigjlegaaGreatDoor
open Go.RowKit Go.Gp

def rLetters : List Int := [224, 225, 226, 227, 228, 229, 231, 232, 233, 234, 235, 236, 237, 238, 239, 241, 242, 243, 244, 245, 246, 249, 250, 251, 252, 253, 255]
def rOf : List Int := [97, 97, 97, 97, 97, 97, 99, 101, 101, 101, 101, 105, 105, 105, 105, 110, 111, 111, 111, 111, 111, 117, 117, 117, 117, 121, 121]
def rBy : List Int := [768, 769, 770, 771, 776, 778, 807, 768, 769, 770, 776, 768, 769, 770, 776, 771, 768, 769, 770, 771, 776, 768, 769, 770, 776, 769, 776]
def rOfB : ByteArray := ⟨#[97, 97, 97, 97, 97, 97, 99, 101, 101, 101, 101, 105, 105, 105, 105, 110, 111, 111, 111, 111, 111, 117, 117, 117, 117, 121, 121]⟩
/-- From number i on. -/
def rMadeF (c m : Int) : Nat → Nat → Int
  | _, 0 => 0
  | i, f + 1 => if c = rOf.getD i 0 ∧ m = rBy.getD i 0 then rLetters.getD i 0 else rMadeF c m (i + 1) f
def rMade (c m : Int) : Int := rMadeF c m 0 27
theorem rOfB_at (i : Nat) (h : i < 27) : ∃ v : UInt8, rOfB.data[i]? = some v ∧ ((v.toNat : Nat) : Int) = rOf.getD i 0 := by
  have h' : i = 0 ∨ i = 1 ∨ i = 2 ∨ i = 3 ∨ i = 4 ∨ i = 5 ∨ i = 6 ∨ i = 7 ∨ i = 8 ∨ i = 9 ∨ i = 10 ∨ i = 11 ∨ i = 12 ∨ i = 13 ∨ i = 14 ∨ i = 15 ∨ i = 16 ∨ i = 17 ∨ i = 18 ∨ i = 19 ∨ i = 20 ∨ i = 21 ∨ i = 22 ∨ i = 23 ∨ i = 24 ∨ i = 25 ∨ i = 26 := by omega
  rcases h' with rfl | rfl | rfl | rfl | rfl | rfl | rfl | rfl | rfl | rfl | rfl | rfl | rfl | rfl | rfl | rfl | rfl | rfl | rfl | rfl | rfl | rfl | rfl | rfl | rfl | rfl | rfl
  all_goals exact ⟨_, rfl, rfl⟩
theorem rOf_bd (i : Nat) : 0 ≤ rOf.getD i 0 ∧ rOf.getD i 0 ≤ 255 := by
  by_cases h : i < 27
  · obtain ⟨v, _, e⟩ := rOfB_at i h
    have := v.toNat_lt
    omega
  · rw [List.getD_eq_getElem?_getD, List.getElem?_eq_none (by simp [rOf]; omega)]
    simp
set_option maxRecDepth 100000 in
theorem rmade_spec (c m : Int) (w0 : World) (m0 : List Res) : PureC Tryz.prog 100 [.int .i32 c, .int .i32 m] w0 m0 (.int .i32 (rMade c m)) := by
  refine Ct.of Tryz.func100 rfl (by kernel_rfl) rfl ?_
  (refine c_sq fun k5 h5 => c_rg <| r_as rfl rfl <| r_nx h5 <| c_sq fun k7 h7 => c_rg <| r_bo Tryz.underlying47 rfl (fun _ => by kernel_rfl) rfl rfl rfl (fun _ => ?_); refine r_as rfl rfl <| r_nx h7 <| c_sq fun k10 h10 => c_rg <| r_as rfl rfl <| r_nx h10 <| c_sq fun k12 h12 => c_rg <| r_bo Tryz.underlying47 rfl (fun _ => by kernel_rfl) rfl rfl rfl (fun _ => ?_); refine r_as rfl rfl <| r_nx h12 <| c_sq fun k15 h15 => c_sq fun k17 h17 => c_rg <| r_as rfl rfl <| r_nx h17 <| c_bl ?_; rotate_left)
  rename_i b1 b2
  refine WC.loop (α := Nat) (fun i => [(0, .int .i32 c), (1, .int .i32 m), (8, .int .i64 i), (5, .slice (some ⟨b1, 0, none⟩) 27 27), (6, .string rOfB), (7, .slice (some ⟨b2, 0, none⟩) 27 27)])
    (fun _ => [.own (some ⟨b2, 0, none⟩) 27 27 (runes rBy) 21 1, .own (some ⟨b1, 0, none⟩) 27 27 (runes rLetters) 21 1]) (fun i => i ≤ 27 ∧ rMade c m = rMadeF c m i (27 - i)) (fun i => 27 - i) 0 ⟨by omega, rfl⟩ ⟨rfl, rfl, rfl, rfl, rfl, rfl, trivial⟩ Mem.keep ?_
  rintro i ⟨hi, he⟩
  by_cases hlt : i < 27
  · obtain ⟨v, hv, ev⟩ := rOfB_at i hlt
    have hb := rOf_bd i
    have e27 : 27 - i = (27 - (i + 1)) + 1 := by omega
    rw [e27, rMadeF] at he
    (refine c_sq fun k30 h30 => c_sq fun k32 h32 => c_rg <| r_mv rfl rfl <| r_mv rfl rfl <| r_ls Tryz.underlying47 rfl rfl <| r_ltT rfl rfl rfl (by omega) <| r_nx h32 <| c_cT rfl <| c_sk <| WE.then_n h30 <| c_sq fun k34 h34 => c_bl <| c_sq fun k36 h36 => c_rg <| r_mv rfl rfl <| r_mv rfl rfl <| r_mv rfl rfl ?_; rotate_left)
    refine r_iS (v := v) rfl rfl rfl rfl (by omega) (by simpa using hv) ?_
    rw [ev]
    (refine r_cv rfl (cv_int (k' := .i32) rfl Tryz.underlying21 (w32 (by omega))) rfl ?_; rotate_left)
    by_cases h1 : c = rOf.getD i 0
    · by_cases h2 : m = rBy.getD i 0
      · (refine r_eqT rfl rfl rfl (by omega) <| r_mv rfl rfl <| r_mv rfl rfl <| r_mv rfl rfl <| r_mv rfl rfl ?_; rotate_left)
        refine r_im (xs := rBy) (f := (.int .i32 ·)) (Rd.own 0 rfl) rfl rfl rfl rfl rfl rfl (by omega) (by show (i : Int) < 27; omega) ?_
        (rotate_left)
        refine r_li i (xs := rBy) (Rd.own 0 rfl) rfl rfl rfl rfl (by show i < 27; omega) ?_
        (refine r_eqT rfl rfl rfl (by omega) <| r_pT rfl rfl rfl <| r_nx h36 <| c_cT rfl <| c_sq fun k40 h40 => c_rg <| r_mv rfl rfl <| r_mv rfl rfl ?_; rotate_left)
        refine r_im (xs := rLetters) (f := (.int .i32 ·)) (Rd.own 1 rfl) rfl rfl rfl rfl rfl rfl (by omega) (by show (i : Int) < 27; omega) ?_
        (rotate_left)
        refine r_li i (xs := rLetters) (Rd.own 1 rfl) rfl rfl rfl rfl (by show i < 27; omega) ?_
        (refine r_as rfl rfl <| r_nx h40 <| c_rt <| WE.blk_r <| WE.then_r <| WE.then_r <| WE.blk_r <| WE.then_r ?_; rotate_left)
        exact WE.ret1 () rfl rfl (by rw [he, if_pos ⟨h1, h2⟩]; rfl) trivial Mem.drop
      · (refine r_eqT rfl rfl rfl (by omega) <| r_mv rfl rfl <| r_mv rfl rfl <| r_mv rfl rfl <| r_mv rfl rfl ?_; rotate_left)
        refine r_im (xs := rBy) (f := (.int .i32 ·)) (Rd.own 0 rfl) rfl rfl rfl rfl rfl rfl (by omega) (by show (i : Int) < 27; omega) ?_
        (rotate_left)
        refine r_li i (xs := rBy) (Rd.own 0 rfl) rfl rfl rfl rfl (by show i < 27; omega) ?_
        (refine r_eqF rfl rfl rfl (by omega) <| r_pT rfl rfl rfl <| r_nx h36 <| c_cF rfl <| c_sk <| WE.blk_n <| WE.then_n h34 <| c_rg <| r_mv rfl rfl <| r_ad rfl rfl rfl (wadd64 (by omega)) <| r_as rfl rfl <| r_nl ?_; rotate_left)
        exact WE.back (i + 1) ⟨by omega, by rw [he, if_neg (fun h => h2 h.2)]⟩ (by omega) ⟨rfl, rfl, rfl, rfl, rfl, rfl, trivial⟩ Mem.keep
    · (refine r_eqF rfl rfl rfl (by omega) <| r_mv rfl rfl <| r_sk rfl rfl <| r_sk rfl rfl <| r_sk rfl rfl <| r_sk rfl rfl <| r_sk rfl rfl <| r_sk rfl rfl <| r_pF rfl rfl rfl <| r_nx h36 <| c_cF rfl <| c_sk <| WE.blk_n <| WE.then_n h34 <| c_rg <| r_mv rfl rfl <| r_ad rfl rfl rfl (wadd64 (by omega)) <| r_as rfl rfl <| r_nl ?_; rotate_left)
      exact WE.back (i + 1) ⟨by omega, by rw [he, if_neg (fun h => h1 h.1)]⟩ (by omega) ⟨rfl, rfl, rfl, rfl, rfl, rfl, trivial⟩ Mem.keep
  · (refine c_sq fun k23 h23 => c_sq fun k25 h25 => c_rg <| r_mv rfl rfl <| r_mv rfl rfl <| r_ls Tryz.underlying47 rfl rfl <| r_ltF rfl rfl rfl (by omega) <| r_nx h25 <| c_cF rfl <| c_ex <| WE.then_x <| WE.then_x <| WE.blk_x <| WE.then_n h15 <| c_sq fun k27 h27 => c_rg <| r_as rfl rfl <| r_nx h27 <| c_rt ?_; rotate_left)
    exact WE.ret1 () rfl rfl (by rw [he, show 27 - i = 0 by omega]; rfl) trivial Mem.drop

/-- Letters and marks put together, as the document says. -/
def rComp : List Int → List Int
  | [] => []
  | [x] => [x]
  | x :: y :: r => if rMade x y ≠ 0 then rMade x y :: rComp r else x :: rComp (y :: r)
theorem rComp_two {l : List Int} {i : Nat} (h : i + 1 < l.length) : rComp (l.drop i) = if rMade (l.getD i 0) (l.getD (i + 1) 0) ≠ 0 then rMade (l.getD i 0) (l.getD (i + 1) 0) :: rComp (l.drop (i + 2)) else l.getD i 0 :: rComp (l.drop (i + 1)) := by
  rw [List.drop_eq_getElem_cons (show i < l.length by omega), List.drop_eq_getElem_cons (show i + 1 < l.length by omega), rComp]
  have e1 : l.getD i 0 = l[i] := by simp [show i < l.length by omega]
  have e2 : l.getD (i + 1) 0 = l[i + 1] := by simp [h]
  rw [e1, e2]
theorem rComp_one {l : List Int} {i : Nat} (h : i < l.length) (h2 : ¬ i + 1 < l.length) : rComp (l.drop i) = l.getD i 0 :: rComp (l.drop (i + 1)) := by
  rw [List.drop_eq_getElem_cons h, List.drop_eq_nil_of_le (show l.length ≤ i + 1 by omega)]
  simp [rComp, h]
set_option maxRecDepth 100000 in
theorem rcomp_spec (A : Option Addr) (c : Nat) (l : List Int) (hn : l.length ≤ 1000000000000) (w0 : World) (m0 : List Res) (hA : Rd w0 m0 A (runes l)) :
    Ct (α := Option Addr × Nat) Tryz.prog 68 [.slice A l.length c] w0 [] m0 (fun _ => True) (fun p => SlR p (rComp l)) (fun p => [OwnR p (rComp l)]) := by
  refine Ct.of Tryz.func68 rfl (by kernel_rfl) rfl ?_
  (refine c_sq fun k8 h8 => c_rg <| r_as rfl rfl <| r_nx h8 <| c_sq fun k10 h10 => c_rg <| r_as rfl rfl <| r_nx h10 <| c_sq fun k12 h12 => c_rg <| r_as rfl rfl <| r_nx h12 <| c_sq fun k14 h14 => c_bl ?_; rotate_left)
  refine WC.loop (α := Nat × (Option Addr × Nat) × List Int) (fun x => [(0, .slice A l.length c), (4, .int .i64 x.1), (3, SlR x.2.1 x.2.2)])
    (fun x => [OwnR x.2.1 x.2.2]) (fun x => x.1 ≤ l.length ∧ x.2.2.length ≤ x.1 ∧ x.2.2 ++ rComp (l.drop x.1) = rComp l) (fun x => l.length - x.1) (0, (none, 0), []) ⟨by simp, by simp, rfl⟩ ⟨rfl, rfl, rfl, trivial⟩ (Mem.nilOwn _ _) ?_
  rintro ⟨i, p, out⟩ ⟨hi, ho, he⟩
  dsimp only at hi ho he ⊢
  by_cases hlt : i < l.length
  · by_cases h2 : i + 1 < l.length
    · rw [rComp_two h2] at he
      (refine c_sq fun k25 h25 => c_sq fun k27 h27 => c_rg <| r_mv rfl rfl <| r_mv rfl rfl <| r_ls Tryz.underlying47 rfl rfl <| r_ltT rfl rfl rfl (by omega) <| r_nx h27 <| c_cT rfl <| c_sk <| WE.then_n h25 <| c_bl <| c_sq fun k29 h29 => c_dr rfl (by kernel_rfl) (by kernel_rfl) <| r_mv rfl rfl <| r_ad rfl rfl rfl (wadd64 (by omega)) <| r_mv rfl rfl <| r_ls Tryz.underlying47 rfl rfl <| r_ltT rfl rfl rfl (by omega) <| r_mv rfl rfl <| r_mv rfl rfl <| r_mv rfl rfl <| r_im (hA.app _) Tryz.underlying47 (by kernel_rfl) rfl rfl rfl rfl (by omega) (by omega) <| r_li (i) (hA.app _) Tryz.underlying21 rfl rfl rfl (by omega) <| r_mv rfl rfl <| r_mv rfl rfl <| r_ad rfl rfl rfl (wadd64 (by omega)) <| r_im (hA.app _) Tryz.underlying47 (by kernel_rfl) rfl rfl rfl rfl (by omega) (by omega) <| r_li (i + 1) (hA.app _) Tryz.underlying21 rfl rfl rfl (by omega) ?_; rotate_left)
      refine WX.pure rfl rfl (rmade_spec _ _ _ _) rfl rfl ?_
      by_cases hm : rMade (l.getD i 0) (l.getD (i + 1) 0) = 0
      · rw [hm]
        rw [if_neg (fun x => x hm)] at he
        (refine r_neF rfl rfl rfl (by omega) <| r_pT rfl rfl rfl <| r_nx h29 <| c_cF rfl <| c_sq fun k33 h33 => c_rg <| r_mv rfl rfl <| r_mv rfl rfl <| r_mv rfl rfl <| r_im (hA.app _) Tryz.underlying47 (by kernel_rfl) rfl rfl rfl rfl (by omega) (by omega) <| r_li (i) (hA.app _) Tryz.underlying21 rfl rfl rfl (by omega) <| r_bo Tryz.underlying47 rfl (fun _ => by kernel_rfl) rfl rfl rfl (fun _ => ?_); rotate_left)
        refine r_am (ys := [l.getD i 0]) 1 (z := .int .i32 0) (by_ := 4) (f := (.int .i32 ·)) Tryz.underlying47 (by kernel_rfl) rfl rfl rfl rfl (Rd.own 0 rfl) rfl (fun _ => rfl) (by omega) rfl (fun q _ => ?_)
        (refine r_as rfl rfl <| r_nx h33 <| c_rg <| r_mv rfl rfl <| r_ad rfl rfl rfl (wadd64 (by omega)) <| r_as rfl rfl <| r_nl <| WE.blk_n ?_; rotate_left)
        exact WE.back (i + 1, q, out ++ [l.getD i 0]) ⟨by dsimp only; omega, by simp; omega, by simpa using he⟩ (by dsimp only; omega) ⟨rfl, rfl, rfl, trivial⟩ (Mem.pick [1] (by decide) rfl)
      · rw [if_pos hm] at he
        (refine r_neT rfl rfl rfl (by omega) <| r_pT rfl rfl rfl <| r_nx h29 <| c_cT rfl <| c_sq fun k33 h33 => ?_)
        refine WC.held [] rfl (by kernel_rfl) ?_
        refine WH.take (d := 27) rfl (by kernel_rfl) (Qv.move rfl) rfl rfl rfl Mem.drop ?_
        refine WH.take (d := 28) rfl (by kernel_rfl) (Qv.move rfl) rfl rfl rfl Mem.drop ?_
        refine WH.take (d := 29) rfl (by kernel_rfl) (Qv.move rfl) rfl rfl rfl Mem.drop ?_
        refine WH.take (d := 30) rfl (by kernel_rfl) (Qv.indexMap Tryz.underlying47 (by kernel_rfl) rfl rfl (hA.app _) rfl (by omega) (by omega)) rfl rfl rfl Mem.drop ?_
        refine WH.take (d := 31) (v := .int .i32 (l.getD i 0)) rfl (by kernel_rfl) (Qv.load_rd (i := i) Tryz.underlying21 rfl rfl (hA.app _) (by simp [hlt])) rfl rfl rfl Mem.drop ?_
        refine WH.take (d := 32) rfl (by kernel_rfl) (Qv.move rfl) rfl rfl rfl Mem.drop ?_
        refine WH.take (d := 33) rfl (by kernel_rfl) (Qv.move rfl) rfl rfl rfl Mem.drop ?_
        refine WH.take (d := 34) rfl (by kernel_rfl) (Qv.add rfl rfl (wadd64 (a := (i : Int)) (b := 1) (by omega))) rfl rfl rfl Mem.drop ?_
        refine WH.take (d := 35) rfl (by kernel_rfl) (Qv.indexMap Tryz.underlying47 (by kernel_rfl) rfl rfl (hA.app _) rfl (by omega) (by omega)) rfl rfl rfl Mem.drop ?_
        refine WH.take (d := 36) (v := .int .i32 (l.getD (i + 1) 0)) rfl (by kernel_rfl) (Qv.load_rd (i := i + 1) Tryz.underlying21 rfl rfl (hA.app _) (by simp [h2])) rfl rfl rfl Mem.drop ?_
        refine WH.call (m1 := []) (m2 := [OwnR p out]) rfl (by kernel_rfl) rfl rfl rfl (rmade_spec (l.getD i 0) (l.getD (i + 1) 0) _ _) rfl rfl (fun _ => Mem.drop) (fun _ _ => ?_)
        refine WH.bo rfl (by kernel_rfl) Tryz.underlying47 rfl (fun _ => by kernel_rfl) rfl rfl rfl rfl (fun _ => Mem.drop) (fun b1 => ?_)
        refine WH.am (ys := [rMade (l.getD i 0) (l.getD (i + 1) 0)]) 1 (z := .int .i32 0) (by_ := 4) (f := (.int .i32 ·)) rfl (by kernel_rfl) Tryz.underlying47 (by kernel_rfl) rfl rfl rfl rfl (Rd.own 0 rfl) rfl (fun _ => rfl) (by omega) rfl rfl (fun _ => Mem.drop) (fun q => ?_)
        refine WH.qv (d := 3) rfl (by kernel_rfl) (Qv.assign rfl) rfl rfl rfl Mem.drop ?_
        refine WH.nil rfl (by kernel_rfl) ?_
        (refine WE.then_n h33 <| c_rg <| r_mv rfl rfl <| r_ad rfl rfl rfl (wadd64 (by omega)) <| r_as rfl rfl <| r_nl <| WE.blk_n ?_; rotate_left)
        exact WE.back (i + 2, q, out ++ [rMade (l.getD i 0) (l.getD (i + 1) 0)]) ⟨by dsimp only; omega, by simp; omega, by simpa using he⟩ (by dsimp only; omega) ⟨rfl, rfl, rfl, trivial⟩ (Mem.pick [1] (by decide) rfl)
    · rw [rComp_one hlt h2] at he
      (refine c_sq fun k25 h25 => c_sq fun k27 h27 => c_rg <| r_mv rfl rfl <| r_mv rfl rfl <| r_ls Tryz.underlying47 rfl rfl <| r_ltT rfl rfl rfl (by omega) <| r_nx h27 <| c_cT rfl <| c_sk <| WE.then_n h25 <| c_bl <| c_sq fun k29 h29 => c_dr rfl (by kernel_rfl) (by kernel_rfl) <| r_mv rfl rfl <| r_ad rfl rfl rfl (wadd64 (by omega)) <| r_mv rfl rfl <| r_ls Tryz.underlying47 rfl rfl <| r_ltF rfl rfl rfl (by omega) <| r_mv rfl rfl <| r_sk rfl rfl <| r_sk rfl rfl <| r_sk rfl rfl <| r_sk rfl rfl <| r_sk rfl rfl <| r_sk rfl rfl <| r_sk rfl rfl <| r_sk rfl rfl <| r_sk rfl rfl <| r_sk rfl rfl <| r_sk rfl rfl <| r_pF rfl rfl rfl <| r_nx h29 <| c_cF rfl <| c_sq fun k31 h31 => c_rg <| r_mv rfl rfl <| r_mv rfl rfl <| r_mv rfl rfl <| r_im (hA.app _) Tryz.underlying47 (by kernel_rfl) rfl rfl rfl rfl (by omega) (by omega) <| r_li (i) (hA.app _) Tryz.underlying21 rfl rfl rfl (by omega) <| r_bo Tryz.underlying47 rfl (fun _ => by kernel_rfl) rfl rfl rfl (fun _ => ?_); rotate_left)
      refine r_am (ys := [l.getD i 0]) 1 (z := .int .i32 0) (by_ := 4) (f := (.int .i32 ·)) Tryz.underlying47 (by kernel_rfl) rfl rfl rfl rfl (Rd.own 0 rfl) rfl (fun _ => rfl) (by omega) rfl (fun q _ => ?_)
      (refine r_as rfl rfl <| r_nx h31 <| c_rg <| r_mv rfl rfl <| r_ad rfl rfl rfl (wadd64 (by omega)) <| r_as rfl rfl <| r_nl <| WE.blk_n ?_; rotate_left)
      exact WE.back (i + 1, q, out ++ [l.getD i 0]) ⟨by dsimp only; omega, by simp; omega, by simpa using he⟩ (by dsimp only; omega) ⟨rfl, rfl, rfl, trivial⟩ (Mem.pick [1] (by decide) rfl)
  · have e : l.drop i = [] := List.drop_eq_nil_of_le (by omega)
    rw [e, rComp, List.append_nil] at he
    rw [he]
    (refine c_sq fun k27 h27 => c_sq fun k29 h29 => c_rg <| r_mv rfl rfl <| r_mv rfl rfl <| r_ls Tryz.underlying47 rfl rfl <| r_ltF rfl rfl rfl (by omega) <| r_nx h29 <| c_cF rfl <| c_ex <| WE.then_x <| WE.then_x <| WE.blk_x <| WE.then_n h14 <| c_sq fun k31 h31 => c_rg <| r_mv rfl rfl <| r_as rfl rfl <| r_nx h31 <| c_rt ?_; rotate_left)
    exact WE.ret1 p rfl rfl rfl trivial Mem.keep
end Go.Proofs.YtkggplnigjlegaaGreatDoor

/- The document's Fold of layer 5: the walk; and the plain law: letters and marks put together are the same. -/
namespace Go.Proofs.YtkggplnigjlegaaGreatDoor
open Go.RowKit Go.Gp

def rMapAll (l : List Int) : List Int := l.flatMap fun c => (refMap c).1
def rOkAll (l : List Int) : Bool := l.all fun c => (refMap c).2
theorem rMapAll_eq {l : List Int} (h : ∀ n ∈ l, -2147483648 ≤ n ∧ n ≤ 2147483647) : rMapAll l = mapAll l ∧ rOkAll l = okAll l := by
  induction l with
  | nil => exact ⟨rfl, rfl⟩
  | cons c l ih =>
    obtain ⟨h1, h2⟩ := ih (fun n hn => h n (by simp [hn]))
    have hc := h c (by simp)
    unfold rMapAll mapAll rOkAll okAll at *
    rw [List.flatMap_cons, List.flatMap_cons, List.all_cons, List.all_cons, h1, h2, map_law c hc.1 hc.2]
    exact ⟨rfl, rfl⟩
theorem rMapAll_snoc (l : List Int) (c : Int) : rMapAll (l ++ [c]) = rMapAll l ++ (refMap c).1 := by simp [rMapAll]
theorem rOkAll_snoc (l : List Int) (c : Int) : rOkAll (l ++ [c]) = (rOkAll l && (refMap c).2) := by simp [rOkAll]

set_option maxRecDepth 100000 in
theorem rfold_ok (A : Option Addr) (c : Nat) (l : List Int) (hn : l.length ≤ 1000000000) (hl : ∀ n ∈ l, -2147483648 ≤ n ∧ n ≤ 2147483647) (hok : okAll l = true) (w0 : World) (m0 : List Res) (hA : Rd w0 m0 A (runes l)) :
    Ct (α := Option Addr × Nat) Tryz.prog 39 [.slice A l.length c] w0 [] m0 (fun _ => True) (fun p => .tuple #[SlR p (rComp (mapAll l)), .int .i64 0]) (fun p => [OwnR p (rComp (mapAll l))]) := by
  refine Ct.of Tryz.func39 rfl (by kernel_rfl) rfl ?_
  (refine c_sq fun k10 h10 => c_rg <| r_as rfl rfl <| r_as rfl rfl <| r_nx h10 <| c_sq fun k12 h12 => c_rg <| r_as rfl rfl <| r_nx h12 <| c_sq fun k14 h14 => c_sq fun k16 h16 => c_rg <| r_as rfl rfl <| r_nx h16 <| c_bl ?_; rotate_left)
  refine WC.loop (α := Nat × (Option Addr × Nat)) (fun x => [(0, .slice A l.length c), (5, .int .i64 x.1), (4, SlR x.2 (mapAll (l.take x.1)))])
    (fun x => [OwnR x.2 (mapAll (l.take x.1))]) (fun x => x.1 ≤ l.length) (fun x => l.length - x.1) (0, (none, 0)) (by simp) ⟨rfl, rfl, rfl, trivial⟩ (Mem.nilOwn _ _) ?_
  rintro ⟨i, p⟩ hi
  dsimp only at hi ⊢
  by_cases hlt : i < l.length
  · have hc := mapAll_length (l.take i)
    have hc' : (l.take i).length ≤ i := List.length_take_le _ _
    have hb : -2147483648 ≤ l.getD i 0 ∧ l.getD i 0 ≤ 2147483647 := hl _ (by simp [hlt])
    have hs := refMap_short (l.getD i 0) hb.1 hb.2
    have ht : (refMap (l.getD i 0)).2 = true := by
      rw [← map_law _ hb.1 hb.2]
      exact List.all_eq_true.1 hok _ (by simp [hlt])
    (refine c_sq fun k27 h27 => c_sq fun k29 h29 => c_rg <| r_mv rfl rfl <| r_mv rfl rfl <| r_ls Tryz.underlying47 rfl rfl <| r_ltT rfl rfl rfl (by omega) <| r_nx h29 <| c_cT rfl <| c_sk <| WE.then_n h27 <| c_sq fun k31 h31 => c_bl <| c_sq fun k33 h33 => c_rg <| r_mv rfl rfl <| r_mv rfl rfl <| r_im (hA.app _) Tryz.underlying47 (by kernel_rfl) rfl rfl rfl rfl (by omega) (by omega) <| r_li (i) (hA.app _) Tryz.underlying21 rfl rfl rfl (by omega) ?_; rotate_left)
    refine WX.call (m1 := []) (m2 := [OwnR p (mapAll (l.take i))]) rfl rfl rfl (refmap_spec (l.getD i 0) _ _) rfl rfl (fun q _ => ?_)
    rw [ht]
    (refine r_mv rfl rfl <| r_ex rfl rfl rfl <| r_ex rfl rfl rfl <| r_as rfl rfl <| r_as rfl rfl <| r_nx h33 <| c_sq fun k37 h37 => c_sq fun k39 h39 => c_rg <| r_mv rfl rfl <| r_no rfl rfl rfl <| r_nx h39 <| c_cF rfl <| c_sk <| WE.then_n h37 <| c_rg <| r_mv rfl rfl <| r_mv rfl rfl ?_; rotate_left)
    refine r_am (ys := (refMap (l.getD i 0)).1) 1 (z := .int .i32 0) (by_ := 4) (f := (.int .i32 ·)) Tryz.underlying47 (by kernel_rfl) rfl rfl rfl rfl (Rd.own 0 rfl) rfl (fun _ => rfl) (by omega) rfl (fun r _ => ?_)
    rw [← map_law _ hb.1 hb.2, ← mapAll_snoc, ← take_next hlt]
    (refine r_as rfl rfl <| r_nl <| WE.blk_n <| WE.then_n h31 <| c_rg <| r_mv rfl rfl <| r_ad rfl rfl rfl (wadd64 (by omega)) <| r_as rfl rfl <| r_nl ?_; rotate_left)
    exact WE.back (i + 1, r) (by dsimp only; omega) (by dsimp only; omega) ⟨rfl, rfl, rfl, trivial⟩ (Mem.pick [1] (by decide) rfl)
  · have e : l.take i = l := List.take_of_length_le (by omega)
    rw [e]
    have hm := mapAll_length l
    (refine c_sq fun k24 h24 => c_sq fun k26 h26 => c_rg <| r_mv rfl rfl <| r_mv rfl rfl <| r_ls Tryz.underlying47 rfl rfl <| r_ltF rfl rfl rfl (by omega) <| r_nx h26 <| c_cF rfl <| c_ex <| WE.then_x <| WE.then_x <| WE.blk_x <| WE.then_n h14 <| c_sq fun k28 h28 => c_rg <| r_mv rfl rfl ?_; rotate_left)
    refine WX.call (m1 := []) (m2 := [OwnR p (mapAll l)]) rfl rfl rfl (rcomp_spec p.1 p.2 (mapAll l) (by omega) _ _ (Rd.own 0 rfl)) rfl rfl (fun q _ => ?_)
    (refine r_as rfl rfl <| r_as rfl rfl <| r_nx h28 <| c_rt ?_; rotate_left)
    exact WE.ret2 q rfl rfl rfl rfl rfl trivial (Mem.pick [0] (by decide) rfl)

set_option maxRecDepth 100000 in
theorem rfold_no (A : Option Addr) (c : Nat) (l : List Int) (hn : l.length ≤ 1000000000) (hl : ∀ n ∈ l, -2147483648 ≤ n ∧ n ≤ 2147483647) (hok : okAll l = false) (w0 : World) (m0 : List Res) (hA : Rd w0 m0 A (runes l)) :
    PureC Tryz.prog 39 [.slice A l.length c] w0 m0 (.tuple #[.slice none 0 0, .int .i64 2]) := by
  refine Ct.of Tryz.func39 rfl (by kernel_rfl) rfl ?_
  (refine c_sq fun k10 h10 => c_rg <| r_as rfl rfl <| r_as rfl rfl <| r_nx h10 <| c_sq fun k12 h12 => c_rg <| r_as rfl rfl <| r_nx h12 <| c_sq fun k14 h14 => c_sq fun k16 h16 => c_rg <| r_as rfl rfl <| r_nx h16 <| c_bl ?_; rotate_left)
  refine WC.loop (α := Nat × (Option Addr × Nat)) (fun x => [(0, .slice A l.length c), (5, .int .i64 x.1), (4, SlR x.2 (mapAll (l.take x.1)))])
    (fun x => [OwnR x.2 (mapAll (l.take x.1))]) (fun x => x.1 ≤ l.length ∧ okAll (l.take x.1) = true) (fun x => l.length - x.1) (0, (none, 0)) ⟨by simp, rfl⟩ ⟨rfl, rfl, rfl, trivial⟩ (Mem.nilOwn _ _) ?_
  rintro ⟨i, p⟩ ⟨hi, ho⟩
  dsimp only at hi ho ⊢
  by_cases hlt : i < l.length
  · have hc := mapAll_length (l.take i)
    have hc' : (l.take i).length ≤ i := List.length_take_le _ _
    have hb : -2147483648 ≤ l.getD i 0 ∧ l.getD i 0 ≤ 2147483647 := hl _ (by simp [hlt])
    have hs := refMap_short (l.getD i 0) hb.1 hb.2
    (refine c_sq fun k27 h27 => c_sq fun k29 h29 => c_rg <| r_mv rfl rfl <| r_mv rfl rfl <| r_ls Tryz.underlying47 rfl rfl <| r_ltT rfl rfl rfl (by omega) <| r_nx h29 <| c_cT rfl <| c_sk <| WE.then_n h27 <| c_sq fun k31 h31 => c_bl <| c_sq fun k33 h33 => c_rg <| r_mv rfl rfl <| r_mv rfl rfl <| r_im (hA.app _) Tryz.underlying47 (by kernel_rfl) rfl rfl rfl rfl (by omega) (by omega) <| r_li (i) (hA.app _) Tryz.underlying21 rfl rfl rfl (by omega) ?_; rotate_left)
    refine WX.call (m1 := []) (m2 := [OwnR p (mapAll (l.take i))]) rfl rfl rfl (refmap_spec (l.getD i 0) _ _) rfl rfl (fun q _ => ?_)
    rcases Bool.eq_false_or_eq_true (refMap (l.getD i 0)).2 with ht | ht
    · rw [ht]
      (refine r_mv rfl rfl <| r_ex rfl rfl rfl <| r_ex rfl rfl rfl <| r_as rfl rfl <| r_as rfl rfl <| r_nx h33 <| c_sq fun k38 h38 => c_sq fun k40 h40 => c_rg <| r_mv rfl rfl <| r_no rfl rfl rfl <| r_nx h40 <| c_cF rfl <| c_sk <| WE.then_n h38 <| c_rg <| r_mv rfl rfl <| r_mv rfl rfl ?_; rotate_left)
      refine r_am (ys := (refMap (l.getD i 0)).1) 1 (z := .int .i32 0) (by_ := 4) (f := (.int .i32 ·)) Tryz.underlying47 (by kernel_rfl) rfl rfl rfl rfl (Rd.own 0 rfl) rfl (fun _ => rfl) (by omega) rfl (fun r _ => ?_)
      rw [← map_law _ hb.1 hb.2, ← mapAll_snoc, ← take_next hlt]
      (refine r_as rfl rfl <| r_nl <| WE.blk_n <| WE.then_n h31 <| c_rg <| r_mv rfl rfl <| r_ad rfl rfl rfl (wadd64 (by omega)) <| r_as rfl rfl <| r_nl ?_; rotate_left)
      exact WE.back (i + 1, r) ⟨by dsimp only; omega, by dsimp only; rw [take_next hlt, okAll_snoc, ho, map_law _ hb.1 hb.2, ht]; rfl⟩ (by dsimp only; omega) ⟨rfl, rfl, rfl, trivial⟩ (Mem.pick [1] (by decide) rfl)
    · rw [ht]
      (refine r_mv rfl rfl <| r_ex rfl rfl rfl <| r_ex rfl rfl rfl <| r_as rfl rfl <| r_as rfl rfl <| r_nx h33 <| c_sq fun k38 h38 => c_sq fun k40 h40 => c_rg <| r_mv rfl rfl <| r_no rfl rfl rfl <| r_nx h40 <| c_cT rfl <| c_sq fun k42 h42 => c_rg <| r_as rfl rfl <| r_as rfl rfl <| r_nx h42 <| c_rt <| WE.then_r <| WE.blk_r <| WE.then_r <| WE.then_r <| WE.blk_r <| WE.then_r ?_; rotate_left)
      exact WE.ret2 () rfl rfl rfl rfl rfl trivial Mem.drop
  · have e : l.take i = l := List.take_of_length_le (by omega)
    rw [e, hok] at ho
    cases ho
end Go.Proofs.YtkggplnigjlegaaGreatDoor

/- Letters and marks put together: fold.Compose and the document's are the same: the plain law. -/
namespace Go.Proofs.YtkggplnigjlegaaGreatDoor
open Go.RowKit Go.Gp

theorem rMadeF_no {c m : Int} (h : ∀ i, i < 27 → ¬ (c = rOf.getD i 0 ∧ m = rBy.getD i 0)) : ∀ f i, i + f ≤ 27 → rMadeF c m i f = 0 := by
  intro f
  induction f with
  | zero => intro i _; rfl
  | succ f ih =>
    intro i hi
    rw [rMadeF, if_neg (h i (by omega)), ih (i + 1) (by omega)]
theorem rOf_in : ∀ i : Fin 27, rOf.getD i.1 0 = 97 ∨ rOf.getD i.1 0 = 99 ∨ rOf.getD i.1 0 = 101 ∨ rOf.getD i.1 0 = 105 ∨ rOf.getD i.1 0 = 110 ∨ rOf.getD i.1 0 = 111 ∨ rOf.getD i.1 0 = 117 ∨ rOf.getD i.1 0 = 121 := by decide
theorem rBy_in : ∀ i : Fin 27, rBy.getD i.1 0 = 768 ∨ rBy.getD i.1 0 = 769 ∨ rBy.getD i.1 0 = 770 ∨ rBy.getD i.1 0 = 771 ∨ rBy.getD i.1 0 = 776 ∨ rBy.getD i.1 0 = 778 ∨ rBy.getD i.1 0 = 807 := by decide
theorem made_law (u c : Int) : rMade u c = pairR u c := by
  by_cases hu : u = 97 ∨ u = 99 ∨ u = 101 ∨ u = 105 ∨ u = 110 ∨ u = 111 ∨ u = 117 ∨ u = 121
  · by_cases hc : c = 768 ∨ c = 769 ∨ c = 770 ∨ c = 771 ∨ c = 776 ∨ c = 778 ∨ c = 807
    · rcases hu with rfl | rfl | rfl | rfl | rfl | rfl | rfl | rfl <;> rcases hc with rfl | rfl | rfl | rfl | rfl | rfl | rfl <;> decide +kernel
    · have e1 : rMade u c = 0 := rMadeF_no (fun i hi h => by have := rBy_in ⟨i, hi⟩; dsimp only at this; omega) 27 0 (by omega)
      have e2 : pairR u c = 0 := by
        have hm : markAt c = -1 := by
          unfold markAt
          rw [if_neg (by omega), if_neg (by omega), if_neg (by omega), if_neg (by omega), if_neg (by omega), if_neg (by omega), if_neg (by omega)]
        unfold pairR
        rw [if_pos (by omega)]
      rw [e1, e2]
  · have e1 : rMade u c = 0 := rMadeF_no (fun i hi h => by have := rOf_in ⟨i, hi⟩; dsimp only at this; omega) 27 0 (by omega)
    have e2 : pairR u c = 0 := by
      have hm : madeL u = [0, 0, 0, 0, 0, 0, 0] := by
        unfold madeL
        rw [if_neg (by omega), if_neg (by omega), if_neg (by omega), if_neg (by omega), if_neg (by omega), if_neg (by omega), if_neg (by omega), if_neg (by omega)]
      have hb := markAt_bd c
      unfold pairR
      rw [hm]
      split
      · rfl
      · generalize (markAt c / 2).toNat = k
        rcases k with _ | _ | _ | _ | _ | _ | _ | k <;> rfl
    rw [e1, e2]
theorem foldl_rcomp : ∀ (n : Nat) (l s : List Int), l.length = n → (∀ x r, l = x :: r → addR s x = s ++ [x]) → l.foldl addR s = s ++ rComp l := by
  intro n
  induction n using Nat.strongRecOn with
  | _ n ih =>
    intro l s hl hs
    match l, hl, hs with
    | [], _, _ => simp [rComp]
    | [x], _, hs => simp [rComp, hs x [] rfl]
    | x :: y :: r, hl, hs =>
      have h1 := hs x (y :: r) rfl
      simp only [List.length_cons] at hl
      rw [List.foldl_cons, h1, rComp]
      by_cases hp : pairR x y ≠ 0
      · rw [List.foldl_cons, addR_end, if_pos hp, if_pos (by rw [made_law]; exact hp), made_law]
        rw [ih r.length (by omega) r (s ++ [pairR x y]) rfl (fun z t _ => by
          have hq := pair_props (pairR x y) z
          have hb := pair_props x y
          rw [addR_end, if_neg (by omega)])]
        simp
      · rw [if_neg (by rw [made_law]; exact hp)]
        rw [ih (y :: r).length (by simp; omega) (y :: r) (s ++ [x]) rfl (fun z t e => by
          injection e with e1 e2
          subst e1
          rw [addR_end, if_neg hp])]
        simp
theorem comp_law (l : List Int) : rComp l = compR l := by
  have := foldl_rcomp l.length l [] rfl (fun x r _ => rfl)
  rw [List.nil_append] at this
  exact this.symm
end Go.Proofs.YtkggplnigjlegaaGreatDoor

/- Whether two slices of runes hold the same: the contract of the reference's Same. -/
namespace Go.Proofs.YtkggplnigjlegaaGreatDoor
open Go.RowKit Go.Gp

theorem take_same {l k : List Int} {i : Nat} (h : l.take i = k.take i) (hi : i < l.length) (hk : i < k.length) (e : l.getD i 0 = k.getD i 0) : l.take (i + 1) = k.take (i + 1) := by
  rw [List.take_succ_eq_append_getElem hi, List.take_succ_eq_append_getElem hk, h]
  simp [hi, hk] at e
  rw [e]
set_option maxRecDepth 100000 in
theorem same_spec (A B : Option Addr) (c d : Nat) (l k : List Int) (w0 : World) (m0 : List Res) (hA : Rd w0 m0 A (runes l)) (hB : Rd w0 m0 B (runes k)) (hn : l.length ≤ 140737488355328) :
    PureC Tryz.prog 103 [.slice A l.length c, .slice B k.length d] w0 m0 (.bool (decide (l = k))) := by
  refine Ct.of Tryz.func103 rfl (by kernel_rfl) rfl ?_
  by_cases hl : l.length = k.length
  · (refine c_sq fun k13 h13 => c_rg <| r_as rfl rfl <| r_nx h13 <| c_sq fun k15 h15 => c_sq fun k17 h17 => c_rg <| r_mv rfl rfl <| r_ls Tryz.underlying47 rfl rfl <| r_mv rfl rfl <| r_ls Tryz.underlying47 rfl rfl <| r_neF rfl rfl rfl (by omega) <| r_nx h17 <| c_cF rfl <| c_sk <| WE.then_n h15 <| c_sq fun k19 h19 => c_sq fun k21 h21 => c_rg <| r_as rfl rfl <| r_nx h21 <| c_bl ?_; rotate_left)
    refine WC.loop (α := Nat) (fun i => [(0, .slice A l.length c), (1, .slice B k.length d), (5, .int .i64 i)]) (fun _ => []) (fun i => i ≤ l.length ∧ l.take i = k.take i) (fun i => l.length - i) 0 ⟨by omega, by simp⟩ ⟨rfl, rfl, rfl, trivial⟩ Mem.keep ?_
    rintro i ⟨hi, ht⟩
    by_cases hlt : i < l.length
    · by_cases he : l.getD i 0 = k.getD i 0
      · (refine c_sq fun k28 h28 => c_sq fun k30 h30 => c_rg <| r_mv rfl rfl <| r_mv rfl rfl <| r_ls Tryz.underlying47 rfl rfl <| r_ltT rfl rfl rfl (by omega) <| r_nx h30 <| c_cT rfl <| c_sk <| WE.then_n h28 <| c_sq fun k32 h32 => c_bl <| c_sq fun k34 h34 => c_dr rfl (by kernel_rfl) (by kernel_rfl) <| r_mv rfl rfl <| r_mv rfl rfl <| r_im (hA.app _) Tryz.underlying47 (by kernel_rfl) rfl rfl rfl rfl (by omega) (by omega) <| r_li (i) (hA.app _) Tryz.underlying21 rfl rfl rfl (by omega) <| r_mv rfl rfl <| r_mv rfl rfl <| r_im (hB.app _) Tryz.underlying47 (by kernel_rfl) rfl rfl rfl rfl (by omega) (by omega) <| r_li (i) (hB.app _) Tryz.underlying21 rfl rfl rfl (by omega) <| r_neF rfl rfl rfl (by omega) <| r_nx h34 <| c_cF rfl <| c_sk <| WE.blk_n <| WE.then_n h32 <| c_rg <| r_mv rfl rfl <| r_ad rfl rfl rfl (wadd64 (by omega)) <| r_as rfl rfl <| r_nl ?_; rotate_left)
        exact WE.back (i + 1) ⟨by omega, take_same ht hlt (by omega) he⟩ (by omega) ⟨rfl, rfl, rfl, trivial⟩ Mem.keep
      · (refine c_sq fun k28 h28 => c_sq fun k30 h30 => c_rg <| r_mv rfl rfl <| r_mv rfl rfl <| r_ls Tryz.underlying47 rfl rfl <| r_ltT rfl rfl rfl (by omega) <| r_nx h30 <| c_cT rfl <| c_sk <| WE.then_n h28 <| c_sq fun k32 h32 => c_bl <| c_sq fun k34 h34 => c_dr rfl (by kernel_rfl) (by kernel_rfl) <| r_mv rfl rfl <| r_mv rfl rfl <| r_im (hA.app _) Tryz.underlying47 (by kernel_rfl) rfl rfl rfl rfl (by omega) (by omega) <| r_li (i) (hA.app _) Tryz.underlying21 rfl rfl rfl (by omega) <| r_mv rfl rfl <| r_mv rfl rfl <| r_im (hB.app _) Tryz.underlying47 (by kernel_rfl) rfl rfl rfl rfl (by omega) (by omega) <| r_li (i) (hB.app _) Tryz.underlying21 rfl rfl rfl (by omega) <| r_neT rfl rfl rfl (by omega) <| r_nx h34 <| c_cT rfl <| c_sq fun k36 h36 => c_rg <| r_as rfl rfl <| r_nx h36 <| c_rt <| WE.blk_r <| WE.then_r <| WE.then_r <| WE.blk_r <| WE.then_r ?_; rotate_left)
        exact WE.ret1 () rfl rfl (by rw [decide_eq_false (fun e => he (by rw [e]))]; rfl) trivial Mem.drop
    · have hi' : i = l.length := by omega
      (refine c_sq fun k28 h28 => c_sq fun k30 h30 => c_rg <| r_mv rfl rfl <| r_mv rfl rfl <| r_ls Tryz.underlying47 rfl rfl <| r_ltF rfl rfl rfl (by omega) <| r_nx h30 <| c_cF rfl <| c_ex <| WE.then_x <| WE.then_x <| WE.blk_x <| WE.then_n h19 <| c_sq fun k32 h32 => c_rg <| r_as rfl rfl <| r_nx h32 <| c_rt ?_; rotate_left)
      have e : l = k := by
        rw [hi', List.take_of_length_le (Nat.le_refl _), List.take_of_length_le (by omega)] at ht
        exact ht
      exact WE.ret1 () rfl rfl (by rw [decide_eq_true e]; rfl) trivial Mem.drop
  · (refine c_sq fun k13 h13 => c_rg <| r_as rfl rfl <| r_nx h13 <| c_sq fun k15 h15 => c_sq fun k17 h17 => c_rg <| r_mv rfl rfl <| r_ls Tryz.underlying47 rfl rfl <| r_mv rfl rfl <| r_ls Tryz.underlying47 rfl rfl <| r_neT rfl rfl rfl (by omega) <| r_nx h17 <| c_cT rfl <| c_sq fun k19 h19 => c_rg <| r_as rfl rfl <| r_nx h19 <| c_rt <| WE.then_r ?_; rotate_left)
    exact WE.ret1 () rfl rfl (by rw [decide_eq_false (fun e => hl (by rw [e]))]; rfl) trivial Mem.drop
theorem same_eq {A B : Option Addr} {c d : Nat} (l k : List Int) (h : l = k) (hn : l.length ≤ 140737488355328) (w0 : World) (m0 : List Res) (hA : Rd w0 m0 A (runes l)) (hB : Rd w0 m0 B (runes k)) :
    PureC Tryz.prog 103 [.slice A l.length c, .slice B k.length d] w0 m0 (.bool true) := by
  have hs := same_spec A B c d l k w0 m0 hA hB hn
  rwa [decide_eq_true h] at hs
end Go.Proofs.YtkggplnigjlegaaGreatDoor

/- The document's layer 6: a part, a whole name: the walks; they answer as the program does. -/
set_option linter.unusedVariables false
set_option linter.unusedSimpArgs false
namespace Go.Proofs.YtkggplnigjlegaaGreatDoor
open Go.RowKit Go.Gp

/-- What forbids the code points of a part that was told by letters. -/
def decdP (s : ByteArray) : Int := match decP s with
  | none => 2
  | some d => if mayP d = true then 0 else 2
set_option maxRecDepth 100000 in
theorem rdecoded_spec (s : ByteArray) (hs : s.size ≤ 65536) (w0 : World) (m0 : List Res) :
    PureC Tryz.prog 72 [.string s] w0 m0 (.int .i64 (decdP s)) := by
  have hdp := @decP_props s
  have hd := rdecode_spec s hs
  have hv : decdP s = match decP s with
    | none => 2
    | some d => if mayP d = true then 0 else 2 := rfl
  refine Ct.of Tryz.func72 rfl (by kernel_rfl) rfl ?_
  (refine c_sq fun k8 h8 => c_rg <| r_as rfl rfl <| r_nx h8 <| c_sq fun k10 h10 => c_rg <| r_mv rfl rfl ?_; rotate_left)
  refine WX.call (m1 := []) (m2 := []) rfl rfl rfl (hd _ _) rfl rfl (fun p _ => ?_)
  clear hd
  generalize decP s = r at hdp hv ⊢
  cases r with
  | none =>
    simp only [rdV, rdM]
    (refine r_mv rfl rfl <| r_ex rfl rfl rfl <| r_ex rfl rfl rfl <| r_as rfl rfl <| r_as rfl rfl <| r_nx h10 <| c_sq fun k16 h16 => c_sq fun k18 h18 => c_rg <| r_mv rfl rfl <| r_neT rfl rfl rfl (by omega) <| r_nx h18 <| c_cT rfl <| c_sq fun k20 h20 => c_rg <| r_mv rfl rfl <| r_as rfl rfl <| r_nx h20 <| c_rt <| WE.then_r ?_; rotate_left)
    exact WE.ret1 () rfl rfl (by rw [hv]; rfl) trivial Mem.drop
  | some d =>
    obtain ⟨g1, g2⟩ := hdp rfl
    have hd32 : ∀ n ∈ d, -2147483648 ≤ n ∧ n ≤ 2147483647 := fun n hn => by have := g1 n hn; omega
    simp only [rdV, rdM]
    have hpl : ∀ mm, Rd w0 mm p.1 (runes d) → PureC Tryz.prog 71 [SlR p d] w0 mm (.bool (!d.any (fun c => decide (128 ≤ c)))) := fun mm h => rplain_spec p.1 p.2 d (by omega) w0 mm h
    have hmk : ∀ mm, Rd w0 mm p.1 (runes d) → PureC Tryz.prog 73 [SlR p d] w0 mm (.bool (decide (MarkP d))) := fun mm h => rmarked_spec p.1 p.2 d w0 mm h
    have hm : mayP d = (d.any (fun c => decide (128 ≤ c)) && !decide (MarkP d) && okAll d && decide (compR (mapAll d) = d)) := rfl
    dsimp only at hv
    rw [hm] at hv
    generalize d.any (fun c => decide (128 ≤ c)) = b1 at hpl hv
    generalize decide (MarkP d) = b2 at hmk hv
    (refine r_mv rfl rfl <| r_ex rfl rfl rfl <| r_ex rfl rfl rfl <| r_as rfl rfl <| r_as rfl rfl <| r_nx h10 <| c_sq fun k32 h32 => c_sq fun k34 h34 => c_rg <| r_mv rfl rfl <| r_neF rfl rfl rfl (by omega) <| r_nx h34 <| c_cF rfl <| c_sk <| WE.then_n h32 <| c_sq fun k36 h36 => c_sq fun k38 h38 => c_rg <| r_mv rfl rfl ?_; rotate_left)
    refine WX.pure rfl rfl (hpl _ (Rd.own 0 rfl)) rfl rfl ?_
    cases b1
    · (refine r_mv rfl rfl <| r_sk rfl rfl <| r_sk rfl rfl <| r_pT rfl rfl rfl <| r_nx h38 <| c_cT rfl <| c_sq fun k42 h42 => c_rg <| r_as rfl rfl <| r_nx h42 <| c_rt <| WE.then_r ?_; rotate_left)
      exact WE.ret1 () rfl rfl (by rw [hv]; rfl) trivial Mem.drop
    · (refine r_mv rfl rfl <| r_mv rfl rfl ?_; rotate_left)
      refine WX.pure rfl rfl (hmk _ (Rd.own 0 rfl)) rfl rfl ?_
      cases b2
      · rcases Bool.eq_false_or_eq_true (okAll d) with hok | hok
        · have e1 : rComp (mapAll d) = compR (mapAll d) := comp_law _
          have h1 := mapAll_length d
          have h2 := compR_length (mapAll d)
          rw [hok] at hv
          (refine r_pF rfl rfl rfl <| r_nx h38 <| c_cF rfl <| c_sk <| WE.then_n h36 <| c_sq fun k48 h48 => c_rg <| r_mv rfl rfl ?_; rotate_left)
          refine WX.call (m1 := []) (m2 := _) rfl rfl rfl (rfold_ok p.1 p.2 d (by omega) hd32 hok _ _ (Rd.own 0 rfl)) rfl rfl (fun q _ => ?_)
          rw [e1]
          have hsm : ∀ mm, Rd w0 mm q.1 (runes (compR (mapAll d))) → Rd w0 mm p.1 (runes d) → PureC Tryz.prog 103 [SlR q (compR (mapAll d)), SlR p d] w0 mm (.bool (decide (compR (mapAll d) = d))) := fun mm g1 g2 => same_spec q.1 p.1 q.2 p.2 _ _ w0 mm g1 g2 (by omega)
          generalize decide (compR (mapAll d) = d) = b3 at hsm hv
          (refine r_mv rfl rfl <| r_ex rfl rfl rfl <| r_ex rfl rfl rfl <| r_as rfl rfl <| r_as rfl rfl <| r_nx h48 <| c_sq fun k55 h55 => c_sq fun k57 h57 => c_rg <| r_mv rfl rfl <| r_neF rfl rfl rfl (by omega) <| r_mv rfl rfl <| r_mv rfl rfl <| r_mv rfl rfl ?_; rotate_left)
          refine WX.pure rfl rfl (hsm _ (Rd.own 0 rfl) (Rd.own 1 rfl)) rfl rfl ?_
          cases b3
          · (refine r_no rfl rfl rfl <| r_pF rfl rfl rfl <| r_nx h57 <| c_cT rfl <| c_sq fun k61 h61 => c_rg <| r_as rfl rfl <| r_nx h61 <| c_rt <| WE.then_r ?_; rotate_left)
            exact WE.ret1 () rfl rfl (by rw [hv]; rfl) trivial Mem.drop
          · (refine r_no rfl rfl rfl <| r_pF rfl rfl rfl <| r_nx h57 <| c_cF rfl <| c_sk <| WE.then_n h55 <| c_sq fun k61 h61 => c_rg <| r_as rfl rfl <| r_nx h61 <| c_rt ?_; rotate_left)
            exact WE.ret1 () rfl rfl (by rw [hv]; rfl) trivial Mem.drop
        · rw [hok] at hv
          (refine r_pF rfl rfl rfl <| r_nx h38 <| c_cF rfl <| c_sk <| WE.then_n h36 <| c_sq fun k45 h45 => c_rg <| r_mv rfl rfl ?_; rotate_left)
          refine WX.call (m1 := []) (m2 := _) rfl rfl rfl (rfold_no p.1 p.2 d (by omega) hd32 hok _ _ (Rd.own 0 rfl)) rfl rfl (fun _ _ => ?_)
          (refine r_mv rfl rfl <| r_ex rfl rfl rfl <| r_ex rfl rfl rfl <| r_as rfl rfl <| r_as rfl rfl <| r_nx h45 <| c_sq fun k49 h49 => c_sq fun k51 h51 => c_rg <| r_mv rfl rfl <| r_neT rfl rfl rfl (by omega) <| r_mv rfl rfl <| r_sk rfl rfl <| r_sk rfl rfl <| r_sk rfl rfl <| r_sk rfl rfl <| r_pT rfl rfl rfl <| r_nx h51 <| c_cT rfl <| c_sq fun k53 h53 => c_rg <| r_as rfl rfl <| r_nx h53 <| c_rt <| WE.then_r ?_; rotate_left)
          exact WE.ret1 () rfl rfl (by rw [hv]; rfl) trivial Mem.drop
      · (refine r_pF rfl rfl rfl <| r_nx h38 <| c_cT rfl <| c_sq fun k43 h43 => c_rg <| r_as rfl rfl <| r_nx h43 <| c_rt <| WE.then_r ?_; rotate_left)
        exact WE.ret1 () rfl rfl (by rw [hv]; rfl) trivial Mem.drop

/-- The document's answer: a text, and a number. -/
def oneR : Option ByteArray → Value
  | none => .tuple #[.string ⟨#[]⟩, .int .i64 2]
  | some t => .tuple #[.string t, .int .i64 0]
set_option maxRecDepth 100000 in
theorem rone_spec (A : Option Addr) (c : Nat) (l : List Int) (hn : l.length ≤ 16000) (w0 : World) (m0 : List Res) (hA : Rd w0 m0 A (runes l)) :
    PureC Tryz.prog 40 [.slice A l.length c] w0 m0 (oneR (oneP l)) := by
  have hsz := runesBytes_size_le l
  have hpl : ∀ mm, Rd w0 mm A (runes l) → PureC Tryz.prog 71 [.slice A l.length c] w0 mm (.bool (!l.any (fun c => decide (128 ≤ c)))) := fun mm h => rplain_spec A c l (by omega) w0 mm h
  have hmk : ∀ mm, Rd w0 mm A (runes l) → PureC Tryz.prog 73 [.slice A l.length c] w0 mm (.bool (decide (MarkP l))) := fun mm h => rmarked_spec A c l w0 mm h
  have hv : oneP l = (if l.any (fun c => !decide (ScP c)) = true then none
      else if preB (runesBytes l) aceB = true then (if l.any (fun c => decide (128 ≤ c)) = true then none else match decP ((runesBytes l).extract 4 (runesBytes l).size) with | none => none | some d => if mayP d = true then some (runesBytes l) else none)
      else if l.any (fun c => decide (128 ≤ c)) = true then (if decide (MarkP l) = true then none else some (aceB ++ strOf (encP l))) else some (runesBytes l)) := by
    unfold oneP
    simp only [decide_eq_true_eq]
    try rfl
  refine Ct.of Tryz.func40 rfl (by kernel_rfl) rfl ?_
  (refine c_sq fun k12 h12 => c_rg <| r_as rfl rfl <| r_as rfl rfl <| r_nx h12 <| c_sq fun k14 h14 => c_sq fun k16 h16 => c_rg <| r_as rfl rfl <| r_nx h16 <| c_bl ?_; rotate_left)
  refine WC.loop (α := Nat) (fun i => [(0, .slice A l.length c), (4, .int .i64 i)]) (fun _ => []) (fun i => i ≤ l.length ∧ ∀ j, j < i → ScP (l.getD j 0)) (fun i => l.length - i) 0 ⟨by omega, by omega⟩ ⟨rfl, rfl, trivial⟩ Mem.keep ?_
  rintro i ⟨hi, hb⟩
  by_cases hlt : i < l.length
  · have hsc : ∀ mm, PureC Tryz.prog 69 [.int .i32 (l.getD i 0)] w0 mm (.bool (decide (ScP (l.getD i 0)))) := fun mm => scalar_spec (l.getD i 0) w0 mm
    by_cases hc : ScP (l.getD i 0)
    · rw [decide_eq_true hc] at hsc
      (refine c_sq fun k25 h25 => c_sq fun k27 h27 => c_rg <| r_mv rfl rfl <| r_mv rfl rfl <| r_ls Tryz.underlying47 rfl rfl <| r_ltT rfl rfl rfl (by omega) <| r_nx h27 <| c_cT rfl <| c_sk <| WE.then_n h25 <| c_sq fun k29 h29 => c_bl <| c_sq fun k31 h31 => c_rg <| r_mv rfl rfl <| r_mv rfl rfl <| r_im (hA.app _) Tryz.underlying47 (by kernel_rfl) rfl rfl rfl rfl (by omega) (by omega) <| r_li (i) (hA.app _) Tryz.underlying21 rfl rfl rfl (by omega) ?_; rotate_left)
      refine WX.pure rfl rfl (hsc _) rfl rfl ?_
      (refine r_no rfl rfl rfl <| r_nx h31 <| c_cF rfl <| c_sk <| WE.blk_n <| WE.then_n h29 <| c_rg <| r_mv rfl rfl <| r_ad rfl rfl rfl (wadd64 (by omega)) <| r_as rfl rfl <| r_nl ?_; rotate_left)
      exact WE.back (i + 1) ⟨by omega, fun j hj => by
        rcases Nat.lt_succ_iff_lt_or_eq.1 hj with h' | h'
        · exact hb j h'
        · rw [h']; exact hc⟩ (by omega) ⟨rfl, rfl, trivial⟩ Mem.keep
    · have e : l.any (fun c => !decide (ScP c)) = true := by
        rw [List.any_eq_true]
        exact ⟨l.getD i 0, by simp [hlt], by rw [decide_eq_false hc]; rfl⟩
      rw [if_pos e] at hv
      rw [decide_eq_false hc] at hsc
      (refine c_sq fun k27 h27 => c_sq fun k29 h29 => c_rg <| r_mv rfl rfl <| r_mv rfl rfl <| r_ls Tryz.underlying47 rfl rfl <| r_ltT rfl rfl rfl (by omega) <| r_nx h29 <| c_cT rfl <| c_sk <| WE.then_n h27 <| c_sq fun k31 h31 => c_bl <| c_sq fun k33 h33 => c_rg <| r_mv rfl rfl <| r_mv rfl rfl <| r_im (hA.app _) Tryz.underlying47 (by kernel_rfl) rfl rfl rfl rfl (by omega) (by omega) <| r_li (i) (hA.app _) Tryz.underlying21 rfl rfl rfl (by omega) ?_; rotate_left)
      refine WX.pure rfl rfl (hsc _) rfl rfl ?_
      (refine r_no rfl rfl rfl <| r_nx h33 <| c_cT rfl <| c_sq fun k35 h35 => c_rg <| r_as rfl rfl <| r_as rfl rfl <| r_nx h35 <| c_rt <| WE.blk_r <| WE.then_r <| WE.then_r <| WE.blk_r <| WE.then_r ?_; rotate_left)
      exact WE.ret2 () rfl rfl rfl rfl (by rw [hv]; rfl) trivial Mem.drop
  · have hSc : Sc l := fun x hx => by
      obtain ⟨j, hj, rfl⟩ := List.mem_iff_getElem.1 hx
      have := hb j (by omega)
      simpa [hj] using this
    have e : l.any (fun c => !decide (ScP c)) = false := by
      rw [List.any_eq_false]
      intro x hx
      rw [decide_eq_true (hSc x hx)]
      decide
    rw [if_neg (by rw [e]; decide)] at hv
    have ha4 : aceB.size = 4 := rfl
    have hpre : preB (runesBytes l) aceB = (decide (4 ≤ (runesBytes l).size) && decide ((runesBytes l).extract 0 4 = aceB)) := rfl
    rw [hpre] at hv
    generalize l.any (fun c => decide (128 ≤ c)) = b3 at hpl hv
    generalize decide (MarkP l) = b5 at hmk hv
    (refine c_sq fun k33 h33 => c_sq fun k35 h35 => c_rg <| r_mv rfl rfl <| r_mv rfl rfl <| r_ls Tryz.underlying47 rfl rfl <| r_ltF rfl rfl rfl (by omega) <| r_nx h35 <| c_cF rfl <| c_ex <| WE.then_x <| WE.then_x <| WE.blk_x <| WE.then_n h14 <| c_sq fun k37 h37 => c_rg <| r_mv rfl rfl ?_; rotate_left)
    refine WX.pure rfl rfl (rencU_spec A c l (by omega) hSc _ _ (hA.app _)) rfl rfl ?_
    clear hpre e hb
    generalize hU : runesBytes l = u at hsz hv ⊢
    by_cases h4 : 4 ≤ u.size
    · rw [decide_eq_true h4, Bool.true_and] at hv
      (refine r_as rfl rfl <| r_nx h37 <| c_sq fun k46 h46 => c_sq fun k48 h48 => c_rg <| r_mv rfl rfl <| r_lS Tryz.underlying9 rfl rfl <| r_geT rfl rfl rfl (by omega) <| r_mv rfl rfl <| r_mv rfl rfl ?_; rotate_left)
      refine r_sT Tryz.underlying9 rfl rfl (by omega) (by omega) rfl ?_
      refine r_seq (s' := aceB) rfl rfl (fun _ => rfl) rfl ?_
      by_cases hx : u.extract 0 4 = aceB
      · rw [decide_eq_true hx, if_pos rfl] at hv
        rw [show u.extract 0 (Int.toNat 4) = u.extract 0 4 from rfl, decide_eq_true hx]
        have hx4 : (u.extract 4 u.size).size = u.size - 4 := by rw [ByteArray.size_extract]; omega
        (refine r_pT rfl rfl rfl <| r_nx h48 <| c_cT rfl <| c_sq fun k54 h54 => c_sq fun k56 h56 => c_rg <| r_mv rfl rfl ?_; rotate_left)
        refine WX.pure rfl rfl (hpl _ (hA.app _)) rfl rfl ?_
        cases b3
        · (refine r_no rfl rfl rfl <| r_nx h56 <| c_cF rfl <| c_sk <| WE.then_n h54 <| c_sq fun k60 h60 => c_rg <| r_mv rfl rfl ?_; rotate_left)
          refine r_sF Tryz.underlying9 rfl rfl (by omega) (by omega) rfl ?_
          rw [show u.extract (Int.toNat 4) u.size = u.extract 4 u.size from rfl]
          have hdd : decdP (u.extract 4 u.size) = match decP (u.extract 4 u.size) with
            | none => 2
            | some d => if mayP d = true then 0 else 2 := rfl
          refine WX.pure rfl rfl (rdecoded_spec (u.extract 4 u.size) (by omega) _ _) rfl rfl ?_
          generalize decP (u.extract 4 u.size) = r at hv hdd
          have hz : (decdP (u.extract 4 u.size) = 2 ∧ oneP l = none) ∨ (decdP (u.extract 4 u.size) = 0 ∧ oneP l = some u) := by
            cases r with
            | none => exact .inl ⟨hdd, hv⟩
            | some d =>
              dsimp only at hdd hv
              by_cases hm : mayP d = true
              · rw [if_pos hm] at hdd hv
                exact .inr ⟨hdd, hv⟩
              · rw [if_neg hm] at hdd hv
                exact .inl ⟨hdd, hv⟩
          rcases hz with ⟨z1, z2⟩ | ⟨z1, z2⟩
          · rw [z1]
            (refine r_as rfl rfl <| r_nx h60 <| c_sq fun k67 h67 => c_sq fun k69 h69 => c_rg <| r_mv rfl rfl <| r_neT rfl rfl rfl (by omega) <| r_nx h69 <| c_cT rfl <| c_sq fun k71 h71 => c_rg <| r_mv rfl rfl <| r_as rfl rfl <| r_as rfl rfl <| r_nx h71 <| c_rt <| WE.then_r <| WE.then_r ?_; rotate_left)
            exact WE.ret2 () rfl rfl rfl rfl (by rw [z2]; rfl) trivial Mem.drop
          · rw [z1]
            (refine r_as rfl rfl <| r_nx h60 <| c_sq fun k67 h67 => c_sq fun k69 h69 => c_rg <| r_mv rfl rfl <| r_neF rfl rfl rfl (by omega) <| r_nx h69 <| c_cF rfl <| c_sk <| WE.then_n h67 <| c_sq fun k71 h71 => c_rg <| r_mv rfl rfl <| r_as rfl rfl <| r_as rfl rfl <| r_nx h71 <| c_rt <| WE.then_r ?_; rotate_left)
            exact WE.ret2 () rfl rfl rfl rfl (by rw [z2]; rfl) trivial Mem.drop
        · (refine r_no rfl rfl rfl <| r_nx h56 <| c_cT rfl <| c_sq fun k60 h60 => c_rg <| r_as rfl rfl <| r_as rfl rfl <| r_nx h60 <| c_rt <| WE.then_r <| WE.then_r ?_; rotate_left)
          exact WE.ret2 () rfl rfl rfl rfl (by rw [hv]; rfl) trivial Mem.drop
      · rw [decide_eq_false hx, if_neg (by decide)] at hv
        rw [show u.extract 0 (Int.toNat 4) = u.extract 0 4 from rfl, decide_eq_false hx]
        (refine r_pT rfl rfl rfl <| r_nx h48 <| c_cF rfl <| c_sk <| WE.then_n h46 <| c_sq fun k53 h53 => c_sq fun k55 h55 => c_rg <| r_mv rfl rfl ?_; rotate_left)
        refine WX.pure rfl rfl (hpl _ (hA.app _)) rfl rfl ?_
        cases b3
        · (refine r_nx h55 <| c_cT rfl <| c_sq fun k59 h59 => c_rg <| r_mv rfl rfl <| r_as rfl rfl <| r_as rfl rfl <| r_nx h59 <| c_rt <| WE.then_r ?_; rotate_left)
          exact WE.ret2 () rfl rfl rfl rfl (by rw [hv]; rfl) trivial Mem.drop
        · (refine r_nx h55 <| c_cF rfl <| c_sk <| WE.then_n h53 <| c_sq fun k59 h59 => c_sq fun k61 h61 => c_rg <| r_mv rfl rfl ?_; rotate_left)
          refine WX.pure rfl rfl (hmk _ (hA.app _)) rfl rfl ?_
          cases b5
          · (refine r_nx h61 <| c_cF rfl <| c_sk <| WE.then_n h59 <| c_sq fun k65 h65 => c_rg <| r_mv rfl rfl ?_; rotate_left)
            refine WX.pure rfl rfl (rencode_spec A c l (by omega) hSc _ _ (hA.app _)) rfl rfl ?_
            (refine r_mv rfl rfl <| r_ex rfl rfl rfl <| r_ex rfl rfl rfl <| r_as rfl rfl <| r_as rfl rfl <| r_nx h65 <| c_sq fun k67 h67 => c_sq fun k69 h69 => c_rg <| r_mv rfl rfl <| r_neF rfl rfl rfl (by omega) <| r_nx h69 <| c_cF rfl <| c_sk <| WE.then_n h67 <| c_sq fun k71 h71 => c_rg <| r_mv rfl rfl ?_; rotate_left)
            have hel := encP_len l
            have hms : 20 * l.length * (l.length + 1) ≤ 20 * 16000 * 16001 := Nat.mul_le_mul (by omega) (by omega)
            have e2 : (strOf (encP l)).size = (encP l).length := by simp [strOf, ByteArray.size]
            refine r_sad (s := aceB) rfl rfl rfl (by omega) ?_
            (refine r_as rfl rfl <| r_as rfl rfl <| r_nx h71 <| c_rt ?_; rotate_left)
            exact WE.ret2 () rfl rfl rfl rfl (by rw [hv]; rfl) trivial Mem.drop
          · (refine r_nx h61 <| c_cT rfl <| c_sq fun k65 h65 => c_rg <| r_as rfl rfl <| r_as rfl rfl <| r_nx h65 <| c_rt <| WE.then_r ?_; rotate_left)
            exact WE.ret2 () rfl rfl rfl rfl (by rw [hv]; rfl) trivial Mem.drop
    · rw [decide_eq_false h4, Bool.false_and, if_neg (by decide)] at hv
      (refine r_as rfl rfl <| r_nx h37 <| c_sq fun k47 h47 => c_sq fun k49 h49 => c_rg <| r_mv rfl rfl <| r_lS Tryz.underlying9 rfl rfl <| r_geF rfl rfl rfl (by omega) <| r_mv rfl rfl <| r_sk rfl rfl <| r_sk rfl rfl <| r_sk rfl rfl <| r_pF rfl rfl rfl <| r_nx h49 <| c_cF rfl <| c_sk <| WE.then_n h47 <| c_sq fun k51 h51 => c_sq fun k53 h53 => c_rg <| r_mv rfl rfl ?_; rotate_left)
      refine WX.pure rfl rfl (hpl _ (hA.app _)) rfl rfl ?_
      cases b3
      · (refine r_nx h53 <| c_cT rfl <| c_sq fun k57 h57 => c_rg <| r_mv rfl rfl <| r_as rfl rfl <| r_as rfl rfl <| r_nx h57 <| c_rt <| WE.then_r ?_; rotate_left)
        exact WE.ret2 () rfl rfl rfl rfl (by rw [hv]; rfl) trivial Mem.drop
      · (refine r_nx h53 <| c_cF rfl <| c_sk <| WE.then_n h51 <| c_sq fun k57 h57 => c_sq fun k59 h59 => c_rg <| r_mv rfl rfl ?_; rotate_left)
        refine WX.pure rfl rfl (hmk _ (hA.app _)) rfl rfl ?_
        cases b5
        · (refine r_nx h59 <| c_cF rfl <| c_sk <| WE.then_n h57 <| c_sq fun k63 h63 => c_rg <| r_mv rfl rfl ?_; rotate_left)
          refine WX.pure rfl rfl (rencode_spec A c l (by omega) hSc _ _ (hA.app _)) rfl rfl ?_
          (refine r_mv rfl rfl <| r_ex rfl rfl rfl <| r_ex rfl rfl rfl <| r_as rfl rfl <| r_as rfl rfl <| r_nx h63 <| c_sq fun k65 h65 => c_sq fun k67 h67 => c_rg <| r_mv rfl rfl <| r_neF rfl rfl rfl (by omega) <| r_nx h67 <| c_cF rfl <| c_sk <| WE.then_n h65 <| c_sq fun k69 h69 => c_rg <| r_mv rfl rfl ?_; rotate_left)
          have hel := encP_len l
          have hms : 20 * l.length * (l.length + 1) ≤ 20 * 16000 * 16001 := Nat.mul_le_mul (by omega) (by omega)
          have e2 : (strOf (encP l)).size = (encP l).length := by simp [strOf, ByteArray.size]
          refine r_sad (s := aceB) rfl rfl rfl (by omega) ?_
          (refine r_as rfl rfl <| r_as rfl rfl <| r_nx h69 <| c_rt ?_; rotate_left)
          exact WE.ret2 () rfl rfl rfl rfl (by rw [hv]; rfl) trivial Mem.drop
        · (refine r_nx h59 <| c_cT rfl <| c_sq fun k63 h63 => c_rg <| r_as rfl rfl <| r_as rfl rfl <| r_nx h63 <| c_rt <| WE.then_r ?_; rotate_left)
          exact WE.ret2 () rfl rfl rfl rfl (by rw [hv]; rfl) trivial Mem.drop
end Go.Proofs.YtkggplnigjlegaaGreatDoor
