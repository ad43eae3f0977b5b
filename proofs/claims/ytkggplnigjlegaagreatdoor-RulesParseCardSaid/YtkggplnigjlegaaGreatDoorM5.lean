/- Contracts and laws, part 5 of 5: what each function of the program computes. -/
import Derived.Test.YtkggplnigjlegaaGreatDoorM4
/- The document's layer 6: a whole name: the walk. -/
set_option linter.unusedVariables false
set_option linter.unusedSimpArgs false
namespace Go.Proofs.YtkggplnigjlegaaGreatDoor
open Go.RowKit Go.Gp

theorem _root_.Go.Gp.r_sb {C : Cx} {Q : Po} {l : List (Nat × Value)} {m : List Res} {ops : Array Oper} {rest : List Oper} {ty : TypeId} {pos : String} {af : Array Edge} {g : Option (Nat × Bool)} {b : Bool} {d : Nat} {x y z : Operand} {t : TypeId} {k k' : IntKind} {A : Option Addr} {n c : Nat} {i j : Int}
    (ht : C.P.underlying t = some (.slice (C.P.elem t))) (hz : ∀ w, (sizeOf (C.P.elem t)).run C.P w = .ok 1 w) (hx : opv l x = some (.slice A n c)) (hy : opv l y = some (.int k i)) (hj : opv l z = some (.int k' j)) (h0 : 0 ≤ i) (h1 : i ≤ j) (h2 : j ≤ c) (h : okk ops l g d C.n = true) (cc : WX b C Q ops rest ((d, sliced A i.toNat j.toNat c 1) :: l) m) :
    WX b C Q ops (⟨some d, .slice t x (some y) (some z) none, ty, pos, af, g⟩ :: rest) l m :=
  WX.q (fun ev hev w _ => by
    have h3 := run_slice_lh (P := C.P) w t A n c ht k k' i j h0 h1 h2
    rw [hz w] at h3
    simp [execOp, hev x _ hx, hev y _ hy, hev z _ hj, Instr.sliceAt, run_underlying ht, h3]) rfl (okk_1 h) (okk_2 h) rfl cc
def allR : Except Int ByteArray → Value
  | .ok s => .tuple #[.string s, .int .i64 0]
  | .error n => .tuple #[.string ⟨#[]⟩, .int .i64 n]
set_option maxRecDepth 100000 in
theorem rall_spec (A : Option Addr) (c : Nat) (l : List Int) (hn : l.length ≤ 1000000) (hl : ∀ n ∈ l, -2147483648 ≤ n ∧ n ≤ 2147483647) (hp : okAll l = true → (foldP l).length ≤ 900000 ∧ ∀ q ∈ splitP 46 (foldP l), q.length ≤ 16000 ∧ ∀ t, oneP q = some t → t.size ≤ 500000) (w0 : World) (m0 : List Res) (hA : Rd w0 m0 A (runes l)) :
    PureC Tryz.prog 22 [.slice A l.length c] w0 m0 (allR (allP l)) := by
  refine Ct.of Tryz.func22 rfl (by kernel_rfl) rfl ?_
  (refine c_sq fun k10 h10 => c_rg <| r_as rfl rfl <| r_as rfl rfl <| r_nx h10 <| c_sq fun k12 h12 => c_rg <| r_mv rfl rfl ?_; rotate_left)
  rcases Bool.eq_false_or_eq_true (okAll l) with hok | hok
  · obtain ⟨hF, hparts⟩ := hp hok
    have e1 : rComp (mapAll l) = foldP l := comp_law _
    refine WX.call (m1 := []) (m2 := []) rfl rfl rfl (rfold_ok A c l (by omega) hl hok _ _ (hA.app _)) rfl rfl (fun p _ => ?_)
    rw [e1]
    have hall : allP l = match partsS (splitP 46 (foldP l)) with
      | none => .error 2
      | some ss => if joinP dotB ss = ⟨#[]⟩ then .error 3 else .ok (joinP dotB ss) := by
      unfold allP
      rw [if_neg (by rw [hok]; decide)]
      try rfl
    generalize foldP l = F at hF hparts hall ⊢
    refine WX.room 0 rfl (fun hpc => ?_)
    (refine r_mv rfl rfl <| r_ex rfl rfl rfl <| r_ex rfl rfl rfl <| r_as rfl rfl <| r_as rfl rfl <| r_nx h12 <| c_sq fun k25 h25 => c_sq fun k27 h27 => c_rg <| r_mv rfl rfl <| r_neF rfl rfl rfl (by omega) <| r_nx h27 <| c_cF rfl <| c_sk <| WE.then_n h25 <| c_sq fun k29 h29 => c_rg <| r_as rfl rfl <| r_nx h29 <| c_sq fun k31 h31 => c_rg <| r_as rfl rfl <| r_nx h31 <| c_sq fun k33 h33 => c_sq fun k35 h35 => c_rg <| r_as rfl rfl <| r_nx h35 <| c_bl ?_; rotate_left)
    refine WC.loop (α := Nat × Nat × List ByteArray) (fun x => [(4, SlR p F), (8, .int .i64 x.1), (7, .int .i64 x.2.1), (6, .string (joinP dotB x.2.2))]) (fun _ => [OwnR p F])
      (fun x => (∀ s ∈ x.2.2, s.size ≤ 500000) ∧ x.2.2.length ≤ x.2.1 ∧ ((x.1 = F.length + 1 ∧ x.2.1 = F.length + 1 ∧ partsS (splitP 46 F) = some x.2.2) ∨ (x.1 ≤ F.length ∧ x.2.1 ≤ x.1 ∧ (∀ j, x.2.1 ≤ j → j < x.1 → F.getD j 0 ≠ 46) ∧ (x.2.1 = 0 ↔ x.2.2 = []) ∧ (∀ q ∈ splitP 46 (F.drop x.2.1), q ∈ splitP 46 F) ∧ partsS (splitP 46 F) = (partsS (splitP 46 (F.drop x.2.1))).map (x.2.2 ++ ·))))
      (fun x => F.length + 1 - x.1) (0, 0, []) ⟨by simp, by simp, .inr ⟨by simp, by simp, by simp, by simp, by simp, by simp⟩⟩ ⟨rfl, rfl, rfl, rfl, trivial⟩ Mem.keep ?_
    rintro ⟨i, fr, done⟩ ⟨hs, hd, hc⟩
    dsimp only at hs hd hc ⊢
    rcases hc with ⟨c1, c2, c3⟩ | ⟨c1, c2, c3, c4, c5, c6⟩
    · rw [c3] at hall
      dsimp only at hall
      generalize joinP dotB done = js at hall ⊢
      (refine c_sq fun k48 h48 => c_sq fun k50 h50 => c_rg <| r_mv rfl rfl <| r_mv rfl rfl <| r_ls Tryz.underlying47 rfl rfl <| r_leF rfl rfl rfl (by omega) <| r_nx h50 <| c_cF rfl <| c_ex <| WE.then_x <| WE.then_x <| WE.blk_x <| WE.then_n h33 <| c_sq fun k52 h52 => c_sq fun k54 h54 => c_rg <| r_mv rfl rfl ?_; rotate_left)
      refine r_seq rfl rfl (fun _ => rfl) rfl ?_
      by_cases hjs : js = ⟨#[]⟩
      · rw [if_pos hjs] at hall
        rw [decide_eq_true hjs]
        (refine r_nx h54 <| c_cT rfl <| c_sq fun k58 h58 => c_rg <| r_as rfl rfl <| r_as rfl rfl <| r_nx h58 <| c_rt <| WE.then_r ?_; rotate_left)
        exact WE.ret2 () rfl rfl rfl rfl (by rw [hall]; rfl) trivial Mem.drop
      · rw [if_neg hjs] at hall
        rw [decide_eq_false hjs]
        (refine r_nx h54 <| c_cF rfl <| c_sk <| WE.then_n h52 <| c_sq fun k58 h58 => c_rg <| r_mv rfl rfl <| r_as rfl rfl <| r_as rfl rfl <| r_nx h58 <| c_rt ?_; rotate_left)
        exact WE.ret2 () rfl rfl rfl rfl (by rw [hall]; rfl) trivial Mem.drop
    · by_cases hlt : i < F.length ∧ F.getD i 0 ≠ 46
      · have hlt1 := hlt.1
        have hlt2 := hlt.2
        (refine c_sq fun k51 h51 => c_sq fun k53 h53 => c_rg <| r_mv rfl rfl <| r_mv rfl rfl <| r_ls Tryz.underlying47 rfl rfl <| r_leT rfl rfl rfl (by omega) <| r_nx h53 <| c_cT rfl <| c_sk <| WE.then_n h51 <| c_sq fun k55 h55 => c_bl <| c_sq fun k57 h57 => c_sq fun k59 h59 => c_rg <| r_mv rfl rfl <| r_mv rfl rfl <| r_ls Tryz.underlying47 rfl rfl <| r_ltT rfl rfl rfl (by omega) <| r_mv rfl rfl <| r_mv rfl rfl <| r_mv rfl rfl <| r_im (Rd.own 0 rfl) Tryz.underlying47 (by kernel_rfl) rfl rfl rfl rfl (by omega) (by omega) <| r_li (i) (Rd.own 0 rfl) Tryz.underlying21 rfl rfl rfl (by omega) <| r_neT rfl rfl rfl (by omega) <| r_pT rfl rfl rfl <| r_nx h59 <| c_cT rfl <| c_ex <| WE.then_x <| WE.blk_x <| WE.then_n h55 <| c_rg <| r_mv rfl rfl <| r_ad rfl rfl rfl (wadd64 (by omega)) <| r_as rfl rfl <| r_nl ?_; rotate_left)
        exact WE.back (i + 1, fr, done) ⟨hs, hd, .inr ⟨by dsimp only; omega, by dsimp only; omega, fun j h1 h2 => by
          rcases Nat.lt_succ_iff_lt_or_eq.1 h2 with h' | h'
          · exact c3 j h1 h'
          · rw [h']; exact hlt2, c4, c5, c6⟩⟩ (by dsimp only; omega) ⟨rfl, rfl, rfl, rfl, trivial⟩ Mem.keep
      · have hpl : ((F.drop fr).take (i - fr)).length = i - fr := by simp; omega
        have hnd : ∀ x ∈ (F.drop fr).take (i - fr), x ≠ 46 := by
          intro x hx
          obtain ⟨j, hj, rfl⟩ := List.mem_iff_getElem.1 hx
          rw [hpl] at hj
          have := c3 (fr + j) (by omega) (by omega)
          have hb : fr + j < F.length := by omega
          simp only [List.getElem_take, List.getElem_drop]
          rw [List.getD_eq_getElem?_getD, List.getElem?_eq_getElem hb] at this
          exact this
        have hB : Rd w0 ([OwnR p F] ++ m0) (subA p.1 fr p.2) (runes ((F.drop fr).take (i - fr))) := by
          have := (Rd.own (w0 := w0) (m := [OwnR p F] ++ m0) (A := p.1) (c := p.2) (n := F.length) (xs := runes F) (e := 21) 0 rfl).sub fr (i - fr) p.2 (by simpa using hpc)
          rw [runes, List.map_take, List.map_drop]
          exact this
        have hcut : splitP 46 (F.drop fr) = (F.drop fr).take (i - fr) :: (if i < F.length then splitP 46 (F.drop (i + 1)) else []) := by
          by_cases hi : i < F.length
          · rw [if_pos hi]
            have h46 : F.getD i 0 = 46 := Classical.byContradiction fun h => hlt ⟨hi, h⟩
            rw [← splitP_cut hnd]
            congr 1
            have e2 : F.drop fr = (F.drop fr).take (i - fr) ++ (F.drop fr).drop (i - fr) := (List.take_append_drop _ _).symm
            rw [List.drop_drop, show fr + (i - fr) = i by omega] at e2
            rw [List.append_assoc]
            conv => lhs; rw [e2]
            congr 1
            rw [List.drop_eq_getElem_cons hi]
            rw [List.getD_eq_getElem?_getD, List.getElem?_eq_getElem hi] at h46
            rw [show F[i] = 46 from h46]
            rfl
          · rw [if_neg hi]
            have e2 : (F.drop fr).take (i - fr) = F.drop fr := List.take_of_length_le (by simp; omega)
            rw [e2] at hnd ⊢
            exact splitP_nodot _ hnd
        rw [hcut] at c5 c6
        have hq := hparts _ (c5 _ List.mem_cons_self)
        generalize (F.drop fr).take (i - fr) = q at hpl hB hcut c5 c6 hq hnd
        have hone := rone_spec (subA p.1 fr p.2) (p.2 - fr) q hq.1 w0 ([OwnR p F] ++ m0) hB
        have hsz6 : 500001 * done.length ≤ 500001 * 900001 := Nat.mul_le_mul_left _ (by omega)
        by_cases hi : i < F.length
        · have h46 : F.getD i 0 = 46 := Classical.byContradiction fun h => hlt ⟨hi, h⟩
          rw [if_pos hi] at c5 c6
          (refine c_sq fun k65 h65 => c_sq fun k67 h67 => c_rg <| r_mv rfl rfl <| r_mv rfl rfl <| r_ls Tryz.underlying47 rfl rfl <| r_leT rfl rfl rfl (by omega) <| r_nx h67 <| c_cT rfl <| c_sk <| WE.then_n h65 <| c_sq fun k69 h69 => c_bl <| c_sq fun k71 h71 => c_sq fun k73 h73 => c_rg <| r_mv rfl rfl <| r_mv rfl rfl <| r_ls Tryz.underlying47 rfl rfl <| r_ltT rfl rfl rfl (by omega) <| r_mv rfl rfl <| r_mv rfl rfl <| r_mv rfl rfl <| r_im (Rd.own 0 rfl) Tryz.underlying47 (by kernel_rfl) rfl rfl rfl rfl (by omega) (by omega) <| r_li (i) (Rd.own 0 rfl) Tryz.underlying21 rfl rfl rfl (by omega) <| r_neF rfl rfl rfl (by omega) <| r_pT rfl rfl rfl <| r_nx h73 <| c_cF rfl <| c_sk <| WE.then_n h71 <| c_sq fun k75 h75 => c_rg <| r_mv rfl rfl <| r_mv rfl rfl <| r_mv rfl rfl ?_; rotate_left)
          refine r_sb elem1 size1 rfl rfl rfl (by omega) (by omega) (by omega) rfl ?_
          rw [sliced_sub, show ((i : Int)).toNat - ((fr : Int)).toNat = q.length by omega, show ((fr : Int)).toNat = fr by omega]
          refine WX.pure rfl rfl hone rfl rfl ?_
          cases ho : oneP q with
          | none =>
            rw [partsS, ho] at c6
            rw [c6] at hall
            simp only [oneR]
            (refine r_mv rfl rfl <| r_ex rfl rfl rfl <| r_ex rfl rfl rfl <| r_as rfl rfl <| r_as rfl rfl <| r_nx h75 <| c_sq fun k73 h73 => c_sq fun k75 h75 => c_rg <| r_mv rfl rfl <| r_neT rfl rfl rfl (by omega) <| r_nx h75 <| c_cT rfl <| c_sq fun k77 h77 => c_rg <| r_mv rfl rfl <| r_as rfl rfl <| r_as rfl rfl <| r_nx h77 <| c_rt <| WE.then_r <| WE.blk_r <| WE.then_r <| WE.then_r <| WE.blk_r <| WE.then_r ?_; rotate_left)
            exact WE.ret2 () rfl rfl rfl rfl (by rw [hall]; rfl) trivial Mem.drop
          | some u =>
            have hu := hq.2 u ho
            simp only [oneR]
            have hjl := joinP_size done hs
            have c6' : partsS (splitP 46 F) = (partsS (splitP 46 (F.drop (i + 1)))).map ((done ++ [u]) ++ ·) := by
              rw [c6, partsS, ho]
              cases partsS (splitP 46 (F.drop (i + 1))) with
              | none => rfl
              | some r => simp
            by_cases hf : fr = 0
            · have hdn : done = [] := c4.1 hf
              have hj : (⟨#[]⟩ : ByteArray) ++ u = joinP dotB (done ++ [u]) := by
                rw [hdn]
                apply ba_ext
                simp [joinP]
              rw [hdn]
              (refine r_mv rfl rfl <| r_ex rfl rfl rfl <| r_ex rfl rfl rfl <| r_as rfl rfl <| r_as rfl rfl <| r_nx h75 <| c_sq fun k87 h87 => c_sq fun k89 h89 => c_rg <| r_mv rfl rfl <| r_neF rfl rfl rfl (by omega) <| r_nx h89 <| c_cF rfl <| c_sk <| WE.then_n h87 <| c_sq fun k91 h91 => c_sq fun k93 h93 => c_rg <| r_mv rfl rfl <| r_gtF rfl rfl rfl (by omega) <| r_nx h93 <| c_cF rfl <| c_sk <| WE.then_n h91 <| c_sq fun k95 h95 => c_rg <| r_mv rfl rfl <| r_mv rfl rfl ?_; rotate_left)
              refine r_sad (s := ⟨#[]⟩) rfl rfl rfl (by
                have e0 : (⟨#[]⟩ : ByteArray).size = 0 := rfl
                omega) ?_
              rw [hj]
              (refine r_as rfl rfl <| r_nx h95 <| c_rg <| r_mv rfl rfl <| r_ad rfl rfl rfl (wadd64 (by omega)) <| r_as rfl rfl <| r_nl <| WE.blk_n <| WE.then_n h69 <| c_rg <| r_mv rfl rfl <| r_ad rfl rfl rfl (wadd64 (by omega)) <| r_as rfl rfl <| r_nl ?_; rotate_left)
              exact WE.back (i + 1, i + 1, done ++ [u]) ⟨fun s hs' => by
                  rcases List.mem_append.1 hs' with h | h
                  · exact hs s h
                  · rw [List.mem_singleton] at h; rw [h]; exact hq.2 u ho, by simp; omega, .inr ⟨by dsimp only; omega, by dsimp only; omega, by dsimp only; omega, by simp, fun q' hq' => c5 q' (List.mem_cons_of_mem _ hq'), c6'⟩⟩ (by dsimp only; omega) ⟨rfl, rfl, rfl, rfl, trivial⟩ Mem.keep
            · have hdn : done ≠ [] := fun h => hf (c4.2 h)
              have hj : joinP dotB done ++ dotB ++ u = joinP dotB (done ++ [u]) := (joinP_app done [u] hdn (by simp)).symm
              have e1 : dotB.size = 1 := rfl
              (refine r_mv rfl rfl <| r_ex rfl rfl rfl <| r_ex rfl rfl rfl <| r_as rfl rfl <| r_as rfl rfl <| r_nx h75 <| c_sq fun k88 h88 => c_sq fun k90 h90 => c_rg <| r_mv rfl rfl <| r_neF rfl rfl rfl (by omega) <| r_nx h90 <| c_cF rfl <| c_sk <| WE.then_n h88 <| c_sq fun k92 h92 => c_sq fun k94 h94 => c_rg <| r_mv rfl rfl <| r_gtT rfl rfl rfl (by omega) <| r_nx h94 <| c_cT rfl <| c_rg <| r_mv rfl rfl ?_; rotate_left)
              refine r_sad (u := dotB) rfl rfl rfl (by omega) ?_
              (refine r_as rfl rfl <| r_nx h92 <| c_sq fun k96 h96 => c_rg <| r_mv rfl rfl <| r_mv rfl rfl ?_; rotate_left)
              refine r_sad rfl rfl rfl (by rw [ByteArray.size_append]; omega) ?_
              rw [hj]
              (refine r_as rfl rfl <| r_nx h96 <| c_rg <| r_mv rfl rfl <| r_ad rfl rfl rfl (wadd64 (by omega)) <| r_as rfl rfl <| r_nl <| WE.blk_n <| WE.then_n h69 <| c_rg <| r_mv rfl rfl <| r_ad rfl rfl rfl (wadd64 (by omega)) <| r_as rfl rfl <| r_nl ?_; rotate_left)
              exact WE.back (i + 1, i + 1, done ++ [u]) ⟨fun s hs' => by
                  rcases List.mem_append.1 hs' with h | h
                  · exact hs s h
                  · rw [List.mem_singleton] at h; rw [h]; exact hq.2 u ho, by simp; omega, .inr ⟨by dsimp only; omega, by dsimp only; omega, by dsimp only; omega, by simp, fun q' hq' => c5 q' (List.mem_cons_of_mem _ hq'), c6'⟩⟩ (by dsimp only; omega) ⟨rfl, rfl, rfl, rfl, trivial⟩ Mem.keep
        · rw [if_neg hi] at c5 c6
          (refine c_sq fun k64 h64 => c_sq fun k66 h66 => c_rg <| r_mv rfl rfl <| r_mv rfl rfl <| r_ls Tryz.underlying47 rfl rfl <| r_leT rfl rfl rfl (by omega) <| r_nx h66 <| c_cT rfl <| c_sk <| WE.then_n h64 <| c_sq fun k68 h68 => c_bl <| c_sq fun k70 h70 => c_sq fun k72 h72 => c_rg <| r_mv rfl rfl <| r_mv rfl rfl <| r_ls Tryz.underlying47 rfl rfl <| r_ltF rfl rfl rfl (by omega) <| r_mv rfl rfl <| r_sk rfl rfl <| r_sk rfl rfl <| r_sk rfl rfl <| r_sk rfl rfl <| r_sk rfl rfl <| r_pF rfl rfl rfl <| r_nx h72 <| c_cF rfl <| c_sk <| WE.then_n h70 <| c_sq fun k74 h74 => c_rg <| r_mv rfl rfl <| r_mv rfl rfl <| r_mv rfl rfl ?_; rotate_left)
          refine r_sb elem1 size1 rfl rfl rfl (by omega) (by omega) (by omega) rfl ?_
          rw [sliced_sub, show ((i : Int)).toNat - ((fr : Int)).toNat = q.length by omega, show ((fr : Int)).toNat = fr by omega]
          refine WX.pure rfl rfl hone rfl rfl ?_
          cases ho : oneP q with
          | none =>
            rw [partsS, ho] at c6
            rw [c6] at hall
            simp only [oneR]
            (refine r_mv rfl rfl <| r_ex rfl rfl rfl <| r_ex rfl rfl rfl <| r_as rfl rfl <| r_as rfl rfl <| r_nx h74 <| c_sq fun k72 h72 => c_sq fun k74 h74 => c_rg <| r_mv rfl rfl <| r_neT rfl rfl rfl (by omega) <| r_nx h74 <| c_cT rfl <| c_sq fun k76 h76 => c_rg <| r_mv rfl rfl <| r_as rfl rfl <| r_as rfl rfl <| r_nx h76 <| c_rt <| WE.then_r <| WE.blk_r <| WE.then_r <| WE.then_r <| WE.blk_r <| WE.then_r ?_; rotate_left)
            exact WE.ret2 () rfl rfl rfl rfl (by rw [hall]; rfl) trivial Mem.drop
          | some u =>
            have hu := hq.2 u ho
            simp only [oneR]
            have hjl := joinP_size done hs
            have c6' : partsS (splitP 46 F) = some (done ++ [u]) := by
              rw [c6, partsS, ho]
              simp [partsS]
            by_cases hf : fr = 0
            · have hdn : done = [] := c4.1 hf
              have hj : (⟨#[]⟩ : ByteArray) ++ u = joinP dotB (done ++ [u]) := by
                rw [hdn]
                apply ba_ext
                simp [joinP]
              rw [hdn]
              (refine r_mv rfl rfl <| r_ex rfl rfl rfl <| r_ex rfl rfl rfl <| r_as rfl rfl <| r_as rfl rfl <| r_nx h74 <| c_sq fun k86 h86 => c_sq fun k88 h88 => c_rg <| r_mv rfl rfl <| r_neF rfl rfl rfl (by omega) <| r_nx h88 <| c_cF rfl <| c_sk <| WE.then_n h86 <| c_sq fun k90 h90 => c_sq fun k92 h92 => c_rg <| r_mv rfl rfl <| r_gtF rfl rfl rfl (by omega) <| r_nx h92 <| c_cF rfl <| c_sk <| WE.then_n h90 <| c_sq fun k94 h94 => c_rg <| r_mv rfl rfl <| r_mv rfl rfl ?_; rotate_left)
              refine r_sad (s := ⟨#[]⟩) rfl rfl rfl (by
                have e0 : (⟨#[]⟩ : ByteArray).size = 0 := rfl
                omega) ?_
              rw [hj]
              (refine r_as rfl rfl <| r_nx h94 <| c_rg <| r_mv rfl rfl <| r_ad rfl rfl rfl (wadd64 (by omega)) <| r_as rfl rfl <| r_nl <| WE.blk_n <| WE.then_n h68 <| c_rg <| r_mv rfl rfl <| r_ad rfl rfl rfl (wadd64 (by omega)) <| r_as rfl rfl <| r_nl ?_; rotate_left)
              exact WE.back (i + 1, i + 1, done ++ [u]) ⟨fun s hs' => by
                  rcases List.mem_append.1 hs' with h | h
                  · exact hs s h
                  · rw [List.mem_singleton] at h; rw [h]; exact hq.2 u ho, by simp; omega, .inl ⟨by dsimp only; omega, by dsimp only; omega, c6'⟩⟩ (by dsimp only; omega) ⟨rfl, rfl, rfl, rfl, trivial⟩ Mem.keep
            · have hdn : done ≠ [] := fun h => hf (c4.2 h)
              have hj : joinP dotB done ++ dotB ++ u = joinP dotB (done ++ [u]) := (joinP_app done [u] hdn (by simp)).symm
              have e1 : dotB.size = 1 := rfl
              (refine r_mv rfl rfl <| r_ex rfl rfl rfl <| r_ex rfl rfl rfl <| r_as rfl rfl <| r_as rfl rfl <| r_nx h74 <| c_sq fun k87 h87 => c_sq fun k89 h89 => c_rg <| r_mv rfl rfl <| r_neF rfl rfl rfl (by omega) <| r_nx h89 <| c_cF rfl <| c_sk <| WE.then_n h87 <| c_sq fun k91 h91 => c_sq fun k93 h93 => c_rg <| r_mv rfl rfl <| r_gtT rfl rfl rfl (by omega) <| r_nx h93 <| c_cT rfl <| c_rg <| r_mv rfl rfl ?_; rotate_left)
              refine r_sad (u := dotB) rfl rfl rfl (by omega) ?_
              (refine r_as rfl rfl <| r_nx h91 <| c_sq fun k95 h95 => c_rg <| r_mv rfl rfl <| r_mv rfl rfl ?_; rotate_left)
              refine r_sad rfl rfl rfl (by rw [ByteArray.size_append]; omega) ?_
              rw [hj]
              (refine r_as rfl rfl <| r_nx h95 <| c_rg <| r_mv rfl rfl <| r_ad rfl rfl rfl (wadd64 (by omega)) <| r_as rfl rfl <| r_nl <| WE.blk_n <| WE.then_n h68 <| c_rg <| r_mv rfl rfl <| r_ad rfl rfl rfl (wadd64 (by omega)) <| r_as rfl rfl <| r_nl ?_; rotate_left)
              exact WE.back (i + 1, i + 1, done ++ [u]) ⟨fun s hs' => by
                  rcases List.mem_append.1 hs' with h | h
                  · exact hs s h
                  · rw [List.mem_singleton] at h; rw [h]; exact hq.2 u ho, by simp; omega, .inl ⟨by dsimp only; omega, by dsimp only; omega, c6'⟩⟩ (by dsimp only; omega) ⟨rfl, rfl, rfl, rfl, trivial⟩ Mem.keep
  · have hall : allP l = .error 2 := by unfold allP; rw [if_pos hok]
    refine WX.call (m1 := []) (m2 := []) rfl rfl rfl (rfold_no A c l (by omega) hl hok _ _ (hA.app _)) rfl rfl (fun _ _ => ?_)
    (refine r_mv rfl rfl <| r_ex rfl rfl rfl <| r_ex rfl rfl rfl <| r_as rfl rfl <| r_as rfl rfl <| r_nx h12 <| c_sq fun k18 h18 => c_sq fun k20 h20 => c_rg <| r_mv rfl rfl <| r_neT rfl rfl rfl (by omega) <| r_nx h20 <| c_cT rfl <| c_sq fun k22 h22 => c_rg <| r_mv rfl rfl <| r_as rfl rfl <| r_as rfl rfl <| r_nx h22 <| c_rt <| WE.then_r ?_; rotate_left)
    exact WE.ret2 () rfl rfl rfl rfl (by rw [hall]; rfl) trivial Mem.drop
end Go.Proofs.YtkggplnigjlegaaGreatDoor

/- gatepostref15.Parse: the walk; gatepostref15.Same at the program's rules and the document's. -/
set_option linter.unusedVariables false
set_option linter.unusedSimpArgs false
namespace Go.Proofs.YtkggplnigjlegaaGreatDoor
open Go.RowKit Go.Gp

/-- The document's rows: a label list's block and room, the labels, whether it is an exception. -/
structure QS where
  done : List ((Nat × Nat) × List ByteArray × Bool)
  p : Option Addr × Nat
abbrev ruleW (d : (Nat × Nat) × List ByteArray × Bool) : List Value := [.slice (some ⟨d.1.1, 0, none⟩) d.2.1.length d.1.2, .bool d.2.2]
def rulesW (ds : List ((Nat × Nat) × List ByteArray × Bool)) : List Value := (ds.map ruleW).flatten
def labsW (ds : List ((Nat × Nat) × List ByteArray × Bool)) : List Res := ds.map (fun d => .own (some ⟨d.1.1, 0, none⟩) d.1.2 d.2.1.length (strsV d.2.1) 9 1)
def QM (s : QS) : List Res := .own s.p.1 s.p.2 s.done.length (rulesW s.done) 32 2 :: labsW s.done
theorem rulesW_at : ∀ (ds : List ((Nat × Nat) × List ByteArray × Bool)) (i : Nat) (d : (Nat × Nat) × List ByteArray × Bool), ds[i]? = some d → (rulesW ds)[2 * i]? = some (.slice (some ⟨d.1.1, 0, none⟩) d.2.1.length d.1.2) ∧ (rulesW ds)[2 * i + 1]? = some (.bool d.2.2)
  | [], i, d, h => by simp at h
  | x :: r, 0, d, h => by
    obtain rfl : x = d := by simpa using h
    exact ⟨rfl, rfl⟩
  | x :: r, i + 1, d, h => by
    have := rulesW_at r i d (by simpa using h)
    have e1 : 2 * (i + 1) = (2 * i) + 1 + 1 := by omega
    have e2 : rulesW (x :: r) = .slice (some ⟨x.1.1, 0, none⟩) x.2.1.length x.1.2 :: .bool x.2.2 :: rulesW r := rfl
    rw [e1, e2]
    simpa using this
set_option maxRecDepth 100000 in
theorem sameG_spec (A B : Option Addr) (c c' : Nat) (da : List (Nat × List ByteArray × Bool)) (db : List ((Nat × Nat) × List ByteArray × Bool)) (h : da.map (·.2) = db.map (·.2)) (hn : da.length ≤ 1000000) (hl : ∀ d ∈ da, d.2.1.length ≤ 1000000) (w0 : World) (m0 : List Res) (hA : Rd w0 m0 A (rulesV da)) (hB : Rd w0 m0 B (rulesW db))
    (hA2 : 0 < da.length → ∃ g, A = some ⟨g, 0, none⟩) (hB2 : 0 < db.length → ∃ g, B = some ⟨g, 0, none⟩) (hla : ∀ d ∈ da, Rd w0 m0 (some ⟨d.1, 0, none⟩) (strsV d.2.1)) (hlb : ∀ d ∈ db, Rd w0 m0 (some ⟨d.1.1, 0, none⟩) (strsV d.2.1)) :
    PureC Tryz.prog 7 [.slice A da.length c, .slice B db.length c'] w0 m0 (.bool true) := by
  have hlen : db.length = da.length := by have := congrArg List.length h; simpa using this.symm
  rw [hlen]
  rw [hlen] at hB2
  refine Ct.of Tryz.func7 rfl (by kernel_rfl) rfl ?_
  (refine c_sq fun k20 h20 => c_rg <| r_as rfl rfl <| r_nx h20 <| c_sq fun k22 h22 => c_sq fun k24 h24 => c_rg <| r_mv rfl rfl <| r_ls Tryz.underlying27 rfl rfl <| r_mv rfl rfl <| r_ls Tryz.underlying27 rfl rfl <| r_neF rfl rfl rfl (by omega) <| r_nx h24 <| c_cF rfl <| c_sk <| WE.then_n h22 <| c_sq fun k26 h26 => c_sq fun k28 h28 => c_rg <| r_as rfl rfl <| r_nx h28 <| c_bl ?_; rotate_left)
  refine WC.loop (α := Nat) (fun i => [(0, .slice A da.length c), (1, .slice B da.length c'), (5, .int .i64 (i : Nat))]) (fun _ => []) (fun i => i ≤ da.length) (fun i => da.length - i) 0 (by omega) ⟨rfl, rfl, rfl, trivial⟩ Mem.keep ?_
  intro i hi
  by_cases hlt : i < da.length
  · obtain ⟨ga, rfl⟩ := hA2 (by omega)
    obtain ⟨gb, rfl⟩ := hB2 (by omega)
    obtain ⟨⟨b1, ls, ex⟩, hx⟩ : ∃ x, da[i]? = some x := ⟨_, List.getElem?_eq_getElem hlt⟩
    obtain ⟨⟨⟨b2, cp⟩, ls', ex'⟩, hy⟩ : ∃ x, db[i]? = some x := ⟨_, List.getElem?_eq_getElem (by omega)⟩
    have hxy := congrArg (fun l => l[i]?) h
    simp only [List.getElem?_map, hx, hy, Option.map_some] at hxy
    obtain ⟨rfl, rfl⟩ : ls = ls' ∧ ex = ex' := by simpa using hxy
    obtain ⟨hx1, hx2⟩ := rulesV_at da i _ hx
    obtain ⟨hy1, hy2⟩ := rulesW_at db i _ hy
    dsimp only at hx1 hx2 hy1 hy2
    have hLA := hla _ (List.mem_iff_getElem?.2 ⟨i, hx⟩)
    have hLB := hlb _ (List.mem_iff_getElem?.2 ⟨i, hy⟩)
    have hll := hl _ (List.mem_iff_getElem?.2 ⟨i, hx⟩)
    dsimp only at hLA hLB hll
    (refine c_sq fun k56 h56 => c_sq fun k58 h58 => c_rg <| r_mv rfl rfl <| r_mv rfl rfl <| r_ls Tryz.underlying27 rfl rfl <| r_ltT rfl rfl rfl (by omega) <| r_nx h58 <| c_cT rfl <| c_sk <| WE.then_n h56 <| c_sq fun k60 h60 => c_bl <| c_sq fun k62 h62 => c_dr rfl (by kernel_rfl) (by kernel_rfl) <| r_mv rfl rfl <| r_mv rfl rfl ?_; rotate_left)
    refine r_iaN (sz := 2) (2 * i) Tryz.underlying27 (by kernel_rfl) rfl rfl rfl (by omega) (by omega) (by omega) ?_
    refine r_fa (2 * i + 1) rfl (fun w => by kernel_rfl) rfl ?_
    refine r_lg Tryz.underlying4 rfl rfl rfl (hA.app _) hx2 ?_
    (refine r_mv rfl rfl <| r_mv rfl rfl ?_; rotate_left)
    refine r_iaN (sz := 2) (2 * i) Tryz.underlying27 (by kernel_rfl) rfl rfl rfl (by omega) (by omega) (by omega) ?_
    refine r_fa (2 * i + 1) rfl (fun w => by kernel_rfl) rfl ?_
    refine r_lg Tryz.underlying4 rfl rfl rfl (hB.app _) hy2 ?_
    (rotate_left)
    refine r_bk (.bool false) rfl rfl (fun _ => by cases ex <;> kernel_rfl) rfl ?_
    (refine r_mv rfl rfl <| r_mv rfl rfl <| r_mv rfl rfl ?_; rotate_left)
    refine r_iaN (sz := 2) (2 * i) Tryz.underlying27 (by kernel_rfl) rfl rfl rfl (by omega) (by omega) (by omega) ?_
    refine r_fa (2 * i) rfl (fun w => by kernel_rfl) rfl ?_
    refine r_lg Tryz.underlying23 rfl rfl rfl (hA.app _) hx1 ?_
    (refine r_mv rfl rfl <| r_mv rfl rfl ?_; rotate_left)
    refine r_iaN (sz := 2) (2 * i) Tryz.underlying27 (by kernel_rfl) rfl rfl rfl (by omega) (by omega) (by omega) ?_
    refine r_fa (2 * i) rfl (fun w => by kernel_rfl) rfl ?_
    refine r_lg Tryz.underlying23 rfl rfl rfl (hB.app _) hy1 ?_
    (rotate_left)
    refine WX.pure rfl rfl (sameS_spec _ _ _ _ ls hll _ _ (hLA.app _) (hLB.app _) (fun _ => rfl) (fun _ => rfl)) rfl rfl ?_
    (refine r_no rfl rfl rfl <| r_pF rfl rfl rfl <| r_nx h62 <| c_cF rfl <| c_sk <| WE.blk_n <| WE.then_n h60 <| c_rg <| r_mv rfl rfl <| r_ad rfl rfl rfl (wadd64 (by omega)) <| r_as rfl rfl <| r_nl ?_; rotate_left)
    exact WE.back (i + 1) (by omega) (by omega) ⟨rfl, rfl, rfl, trivial⟩ Mem.keep
  · (refine c_sq fun k33 h33 => c_sq fun k35 h35 => c_rg <| r_mv rfl rfl <| r_mv rfl rfl <| r_ls Tryz.underlying27 rfl rfl <| r_ltF rfl rfl rfl (by omega) <| r_nx h35 <| c_cF rfl <| c_ex <| WE.then_x <| WE.then_x <| WE.blk_x <| WE.then_n h26 <| c_sq fun k37 h37 => c_rg <| r_as rfl rfl <| r_nx h37 <| c_rt ?_; rotate_left)
    exact WE.ret1 () rfl rfl rfl trivial Mem.drop
theorem wordsL_snoc (l : List ByteArray) (x : ByteArray) : wordsL (l ++ [x]) = wordsL l ++ (if blankW (wordS x) = true then [] else [wordS x]) := by
  unfold wordsL
  rw [List.map_append, List.filter_append]
  congr 1
  rw [List.map_cons, List.map_nil, List.filter_cons]
  cases blankW (wordS x) <;> simp
theorem preB_head (t : ByteArray) (h : 0 < t.size) : preB t bangB = decide ((t.get! 0).toNat = 33) := by
  have hb := get_at t 0 h
  unfold preB
  generalize t.get! 0 = x at hb
  have e1 : bangB.size = 1 := rfl
  have e2 : t.extract 0 1 = ⟨#[x]⟩ := by
    rw [ext_take t 1 (by omega)]
    cases hd : t.data.toList with
    | nil => rw [hd] at hb; simp at hb
    | cons y r =>
      rw [hd] at hb
      obtain rfl : y = x := by simpa using hb
      rfl
  rw [e1, e2, decide_eq_true (by omega : 1 ≤ t.size), Bool.true_and]
  congr 1
  refine propext ⟨fun h => ?_, fun h => ?_⟩
  · have : x = 33 := by
      have := congrArg (fun b => b.data.toList.head?) h
      simpa using this
    rw [this]; rfl
  · have : x = 33 := UInt8.toNat_inj.1 h
    rw [this]
theorem allP_err {l : List Int} {n : Int} (h : allP l = .error n) : n ≠ 0 := by
  unfold allP at h
  split at h
  · injection h with h; omega
  · split at h
    · injection h with h; omega
    · split at h
      · injection h with h; omega
      · cases h
theorem labelsP_nil : labelsP ⟨#[]⟩ = none := by decide +kernel
theorem labelsP_pos {d : ByteArray} {ls : List ByteArray} (h : labelsP d = some ls) : 0 < ls.length := by
  unfold labelsP at h
  split at h
  · cases h
  · injection h with h
    rw [← h, List.length_reverse]
    exact List.length_pos_iff.2 (trimP_ne _ (splitS_ne 46 d))
set_option maxRecDepth 100000 in
theorem rparse_spec (s : ByteArray) (hs : s.size ≤ 800000) (hw : ∀ w ∈ wordsP s, w.size ≤ 800000 ∧ AllOk (decUP (nameP w))) (w0 : World) (m0 : List Res) :
    Ct (α := QS) Tryz.prog 9 [.string s] w0 [] m0 (fun x => x.done.map (·.2) = parseP s) (fun x => .slice x.p.1 x.done.length x.p.2) QM := by
  have hN2 := splitS_len 10 s
  have hne := List.length_pos_iff.2 (splitS_ne 10 s)
  have hsz := splitS_mem 10 s
  have hP : parseP s = (wordsL (splitS 10 s)).filterMap ruleP := rfl
  have hw' : ∀ w ∈ wordsL (splitS 10 s), w.size ≤ 800000 ∧ AllOk (decUP (nameP w)) := hw
  obtain ⟨L, hL⟩ : ∃ L, splitS 10 s = L := ⟨_, rfl⟩
  rw [hL] at hN2 hne hsz hP hw'
  refine Ct.of Tryz.func9 rfl (by kernel_rfl) rfl ?_
  (refine c_sq fun k18 h18 => c_rg <| r_as rfl rfl <| r_nx h18 <| c_sq fun k20 h20 => c_rg <| r_as rfl rfl <| r_nx h20 <| c_sq fun k22 h22 => c_rg <| r_mv rfl rfl ?_; rotate_left)
  refine WX.call (m1 := []) (m2 := []) rfl rfl rfl (rsplit_spec s 10 hs _ _) rfl rfl (fun pl _ => ?_)
  obtain ⟨lA, lc⟩ := pl
  rw [hL]
  refine WX.formM (A := lA) (c := lc) (n := L.length) (xs := strsV L) (e := 9) (sz := 1) (by simp) (fun hfa => ?_)
  obtain ⟨lg, rfl⟩ := hfa hne
  (refine r_as rfl rfl <| r_nx h22 <| c_sq fun k31 h31 => c_sq fun k33 h33 => c_rg <| r_as rfl rfl <| r_nx h33 <| c_bl ?_; rotate_left)
  refine WC.loop (α := Nat × QS) (fun x => [(4, .slice (some ⟨lg, 0, none⟩) L.length lc), (5, .int .i64 (x.1 : Nat)), (3, .slice x.2.p.1 x.2.done.length x.2.p.2)]) (fun x => OwnS (some ⟨lg, 0, none⟩, lc) L :: QM x.2) (fun x => x.1 ≤ L.length ∧ x.2.done.length ≤ x.1 ∧ x.2.done.map (·.2) = (wordsL (L.take x.1)).filterMap ruleP) (fun x => L.length - x.1) (0, ⟨[], (none, 0)⟩) ⟨Nat.zero_le _, Nat.le_refl _, rfl⟩ ⟨rfl, rfl, rfl, trivial⟩ (fun w hw => ?_) ?_
  · exact Mem.pick (m := [.own none 0 0 [] 32 2, OwnS (some ⟨lg, 0, none⟩, lc) L]) [1, 0] (by decide) rfl w (Mem.addNil 32 2 w hw)
  · rintro ⟨i, done, p⟩ ⟨hi, hdl, hd⟩
    dsimp only at hi hdl hd ⊢
    by_cases hlt : i < L.length
    · have hx : L[i]? = some (L.getD i ⟨#[]⟩) := by rw [List.getD_eq_getElem?_getD, List.getElem?_eq_getElem hlt]; rfl
      have htk := take_snocL _ _ _ hx
      have hmem : L.getD i ⟨#[]⟩ ∈ L := List.mem_iff_getElem?.2 ⟨i, hx⟩
      have hlz := (hsz _ hmem).1
      have hws := wordS_size (L.getD i ⟨#[]⟩)
      have hsn := wordsL_snoc (L.take i) (L.getD i ⟨#[]⟩)
      rw [← htk] at hsn
      have hwi : blankW (wordS (L.getD i ⟨#[]⟩)) = false → wordS (L.getD i ⟨#[]⟩) ∈ wordsL L := fun hb => List.mem_filter.2 ⟨List.mem_map.2 ⟨_, hmem, rfl⟩, by rw [hb]; rfl⟩
      have hsp := fun mm => rword_spec (L.getD i ⟨#[]⟩) (by omega) w0 mm
      generalize wordS (L.getD i ⟨#[]⟩) = W at hws hsn hwi hsp
      have hskip : blankW W = true → done.map (·.2) = (wordsL (L.take (i + 1))).filterMap ruleP := fun hb => by rw [hsn, if_pos hb, List.append_nil]; exact hd
      have hstep : blankW W = false → done.map (·.2) ++ (ruleP W).toList = (wordsL (L.take (i + 1))).filterMap ruleP := fun hb => by
        rw [hsn, if_neg (by rw [hb]; decide), List.filterMap_append, hd, List.filterMap_cons]
        cases ruleP W <;> simp
      have e2 : twoB.size = 2 := rfl
      (refine c_sq fun k54 h54 => c_sq fun k56 h56 => c_rg <| r_mv rfl rfl <| r_mv rfl rfl <| r_ls Tryz.underlying23 rfl rfl <| r_ltT rfl rfl rfl (by omega) <| r_nx h56 <| c_cT rfl <| c_sk <| WE.then_n h54 <| c_sq fun k58 h58 => c_bl <| c_sq fun k60 h60 => c_rg <| r_mv rfl rfl <| r_mv rfl rfl <| r_im (Rd.own 0 rfl) Tryz.underlying23 (by kernel_rfl) rfl rfl rfl rfl (by omega) (by omega) <| r_lt (i) (Rd.own 0 rfl) Tryz.underlying9 rfl rfl rfl (by omega) ?_; rotate_left)
      refine WX.pure rfl rfl (hsp _) rfl rfl ?_
      by_cases hW0 : W = ⟨#[]⟩
      · have hbl : blankW W = true := by unfold blankW; rw [decide_eq_true hW0]; rfl
        subst hW0
        (refine r_as rfl rfl <| r_nx h60 <| c_sq fun k69 h69 => c_sq fun k71 h71 => c_rg <| r_mv rfl rfl ?_; rotate_left)
        refine r_seq rfl rfl (fun _ => by kernel_rfl) rfl ?_
        rw [decide_eq_true rfl]
        (refine r_mv rfl rfl <| r_sk rfl rfl <| r_sk rfl rfl <| r_sk rfl rfl <| r_sk rfl rfl <| r_sk rfl rfl <| r_sk rfl rfl <| r_sk rfl rfl <| r_sk rfl rfl <| r_pT rfl rfl rfl <| r_nx h71 <| c_cT rfl <| c_ex <| WE.then_x <| WE.blk_x <| WE.then_n h58 <| c_rg <| r_mv rfl rfl <| r_ad rfl rfl rfl (wadd64 (by omega)) <| r_as rfl rfl <| r_nl ?_; rotate_left)
        exact WE.back (i + 1, ⟨done, p⟩) ⟨by dsimp only; omega, by dsimp only; omega, hskip hbl⟩ (by dsimp only; omega) ⟨rfl, rfl, rfl, trivial⟩ Mem.keep
      · have hWp : 0 < W.size := by
          rcases Nat.eq_zero_or_pos W.size with h | h
          · exact absurd (ba_ext (by simpa using (List.eq_nil_of_length_eq_zero (by rw [size_list]; exact h) : W.data.toList = []))) hW0
          · exact h
        by_cases hW2 : 1 < W.size ∧ W.extract 0 2 = ⟨#[47, 47]⟩
        · have hbl : blankW W = true := by
            unfold blankW preB
            rw [e2, decide_eq_true (show 2 ≤ W.size from hW2.1), decide_eq_true hW2.2]
            simp
          obtain ⟨hW1, hW2⟩ := hW2
          (refine r_as rfl rfl <| r_nx h60 <| c_sq fun k68 h68 => c_sq fun k70 h70 => c_rg <| r_mv rfl rfl ?_; rotate_left)
          refine r_seq rfl rfl (fun _ => by kernel_rfl) rfl ?_
          rw [decide_eq_false hW0]
          (refine r_mv rfl rfl <| r_mv rfl rfl <| r_lS Tryz.underlying9 rfl rfl <| r_gtT rfl rfl rfl (by omega) <| r_mv rfl rfl <| r_mv rfl rfl ?_; rotate_left)
          refine r_sT Tryz.underlying9 rfl rfl (by omega) (by omega) rfl ?_
          refine r_seq (s' := ⟨#[47, 47]⟩) rfl rfl (fun _ => by kernel_rfl) rfl ?_
          rw [show (2 : Int).toNat = 2 from rfl, decide_eq_true hW2]
          (refine r_pT rfl rfl rfl <| r_pF rfl rfl rfl <| r_nx h70 <| c_cT rfl <| c_ex <| WE.then_x <| WE.blk_x <| WE.then_n h58 <| c_rg <| r_mv rfl rfl <| r_ad rfl rfl rfl (wadd64 (by omega)) <| r_as rfl rfl <| r_nl ?_; rotate_left)
          exact WE.back (i + 1, ⟨done, p⟩) ⟨by dsimp only; omega, by dsimp only; omega, hskip hbl⟩ (by dsimp only; omega) ⟨rfl, rfl, rfl, trivial⟩ Mem.keep
        · have hbl : blankW W = false := by
            unfold blankW preB
            rw [e2, decide_eq_false hW0, Bool.false_or, Bool.and_eq_false_iff, decide_eq_false_iff_not, decide_eq_false_iff_not]
            by_cases h : 1 < W.size
            · exact .inr (fun h2 => hW2 ⟨h, h2⟩)
            · exact .inl (by omega)
          replace hstep := hstep hbl
          obtain ⟨hWz, hA1, hA2, hA3, hA4⟩ := hw' W (hwi hbl)
          have hR32 : ∀ n ∈ decUP (nameP W), -2147483648 ≤ n ∧ n ≤ 2147483647 := fun n hn => by have := decU_rng _ _ n hn; omega
          have hnz : (nameP W).size ≤ W.size := by
            unfold nameP
            split
            · rw [ByteArray.size_extract]; omega
            · exact Nat.le_refl _
          have hc0 := get_at W 0 hWp
          have hph := preB_head W hWp
          have hrule : ruleP W = match allP (decUP (nameP W)) with
            | .error _ => none
            | .ok s => (labelsP s).map (·, preB W bangB) := rfl
          generalize W.get! 0 = c0 at hc0 hph
          cases hpb : preB W bangB with
          | true =>
            rw [hpb] at hph hrule
            have hc33 : c0.toNat = 33 := of_decide_eq_true hph.symm
            by_cases hW1 : 1 < W.size
            · have hW3 : ¬ W.extract 0 2 = ⟨#[47, 47]⟩ := fun h => hW2 ⟨hW1, h⟩
              (refine r_as rfl rfl <| r_nx h60 <| c_sq fun k85 h85 => c_sq fun k87 h87 => c_rg <| r_mv rfl rfl ?_; rotate_left)
              refine r_seq rfl rfl (fun _ => by kernel_rfl) rfl ?_
              rw [decide_eq_false hW0]
              (refine r_mv rfl rfl <| r_mv rfl rfl <| r_lS Tryz.underlying9 rfl rfl <| r_gtT rfl rfl rfl (by omega) <| r_mv rfl rfl <| r_mv rfl rfl ?_; rotate_left)
              refine r_sT Tryz.underlying9 rfl rfl (by omega) (by omega) rfl ?_
              refine r_seq (s' := ⟨#[47, 47]⟩) rfl rfl (fun _ => by kernel_rfl) rfl ?_
              rw [show (2 : Int).toNat = 2 from rfl, decide_eq_false hW3]
              (refine r_pT rfl rfl rfl <| r_pF rfl rfl rfl <| r_nx h87 <| c_cF rfl <| c_sk <| WE.then_n h85 <| c_sq fun k89 h89 => c_rg <| r_mv rfl rfl ?_; rotate_left)
              refine r_iS (v := c0) Tryz.underlying9 rfl rfl rfl (by decide) (by rw [← Array.getElem?_toList]; exact hc0) ?_
              (refine r_eqT rfl rfl rfl (by omega) <| r_as rfl rfl <| r_nx h89 <| c_sq fun k91 h91 => c_sq fun k93 h93 => c_rg <| r_mv rfl rfl <| r_nx h93 <| c_cT rfl <| c_rg <| r_mv rfl rfl ?_; rotate_left)
              refine r_sF Tryz.underlying9 rfl rfl (by decide) (by omega) rfl ?_
              rw [show W.extract (1 : Int).toNat W.size = nameP W by unfold nameP; rw [if_pos hpb]; rfl]
              (refine r_as rfl rfl <| r_nx h91 <| c_sq fun k95 h95 => c_rg <| r_mv rfl rfl ?_; rotate_left)
              refine WX.call (m1 := []) (m2 := _) rfl rfl rfl (udec_spec (nameP W) (by omega) _ _) rfl rfl (fun pd _ => ?_)
              generalize decUP (nameP W) = cps at hA1 hA2 hA3 hA4 hR32 hrule ⊢
              refine WX.pure rfl rfl (rall_spec _ _ cps hA1 (fun x hx => hR32 x hx) hA3 _ _ (Rd.own 0 rfl)) rfl rfl ?_
              cases hall : allP cps with
              | error n =>
                rw [hall] at hrule
                have hn0 := allP_err hall
                have hnone : (ruleP W).toList = [] := by rw [hrule]; rfl
                rw [hnone, List.append_nil] at hstep
                simp only [allR]
                (refine r_mv rfl rfl <| r_ex rfl rfl rfl <| r_ex rfl rfl rfl <| r_as rfl rfl <| r_as rfl rfl <| r_nx h95 <| c_sq fun k103 h103 => c_rg <| r_mv rfl rfl ?_; rotate_left)
                refine WX.call (m1 := []) (m2 := _) rfl rfl rfl (rlabels_spec ⟨#[]⟩ (by decide) _ _) rfl rfl (fun q _ => ?_)
                rw [labelsP_nil]
                simp only [labVR, labMR]
                (refine r_mv rfl rfl <| r_ex rfl rfl rfl <| r_ex rfl rfl rfl <| r_as rfl rfl <| r_as rfl rfl <| r_nx h103 <| c_sq fun k107 h107 => c_rg <| r_mv rfl rfl <| r_eqF rfl rfl rfl (by omega) <| r_mv rfl rfl <| r_sk rfl rfl <| r_pF rfl rfl rfl <| r_nx h107 <| c_cF rfl <| c_sk <| WE.blk_n <| WE.then_n h58 <| c_rg <| r_mv rfl rfl <| r_ad rfl rfl rfl (wadd64 (by omega)) <| r_as rfl rfl <| r_nl ?_; rotate_left)
                exact WE.back (i + 1, ⟨done, p⟩) ⟨by dsimp only; omega, by dsimp only; omega, hstep⟩ (by dsimp only; omega) ⟨rfl, rfl, rfl, trivial⟩ (fun w h => Mem.tail h)
              | ok d =>
                rw [hall] at hrule
                have hd4 := hA4 d hall
                simp only [allR]
                (refine r_mv rfl rfl <| r_ex rfl rfl rfl <| r_ex rfl rfl rfl <| r_as rfl rfl <| r_as rfl rfl <| r_nx h95 <| c_sq fun k112 h112 => c_rg <| r_mv rfl rfl ?_; rotate_left)
                refine WX.call (m1 := []) (m2 := _) rfl rfl rfl (rlabels_spec d hd4 _ _) rfl rfl (fun q _ => ?_)
                cases hlab : labelsP d with
                | none =>
                  have hnone : (ruleP W).toList = [] := by rw [hrule]; dsimp only; rw [hlab]; rfl
                  rw [hnone, List.append_nil] at hstep
                  simp only [labVR, labMR]
                  (refine r_mv rfl rfl <| r_ex rfl rfl rfl <| r_ex rfl rfl rfl <| r_as rfl rfl <| r_as rfl rfl <| r_nx h112 <| c_sq fun k108 h108 => c_rg <| r_mv rfl rfl <| r_eqT rfl rfl rfl (by omega) <| r_mv rfl rfl <| r_mv rfl rfl <| r_pT rfl rfl rfl <| r_nx h108 <| c_cF rfl <| c_sk <| WE.blk_n <| WE.then_n h58 <| c_rg <| r_mv rfl rfl <| r_ad rfl rfl rfl (wadd64 (by omega)) <| r_as rfl rfl <| r_nl ?_; rotate_left)
                  exact WE.back (i + 1, ⟨done, p⟩) ⟨by dsimp only; omega, by dsimp only; omega, hstep⟩ (by dsimp only; omega) ⟨rfl, rfl, rfl, trivial⟩ (fun w h => Mem.tail h)
                | some ls =>
                  have hsome : (ruleP W).toList = [(ls, true)] := by rw [hrule]; dsimp only; rw [hlab]; rfl
                  rw [hsome] at hstep
                  have hlp := labelsP_pos hlab
                  simp only [labVR, labMR]
                  obtain ⟨qA, qc⟩ := q
                  refine WX.formM (A := qA) (c := qc) (n := ls.length) (xs := strsV ls) (e := 9) (sz := 1) (by simp) (fun hfq => ?_)
                  obtain ⟨qg, rfl⟩ := hfq hlp
                  (refine r_mv rfl rfl <| r_ex rfl rfl rfl <| r_ex rfl rfl rfl <| r_as rfl rfl <| r_as rfl rfl <| r_nx h112 <| c_sq fun k128 h128 => c_rg <| r_mv rfl rfl <| r_eqT rfl rfl rfl (by omega) <| r_mv rfl rfl <| r_mv rfl rfl <| r_pT rfl rfl rfl <| r_nx h128 <| c_cT rfl <| c_rg <| r_mv rfl rfl <| r_mv rfl rfl <| r_mv rfl rfl <| r_bd rfl (fun _ => by kernel_rfl) rfl ?_)
                  refine WX.ev (Ev.buildSlice (e := 32) (vs := [(0, .agg #[.slice (some ⟨qg, 0, none⟩) ls.length qc, .bool true])]) (cs := ruleW ((qg, qc), ls, true)) rfl (fun w => by kernel_rfl)) rfl rfl rfl rfl (fun a _ => ?_)
                  obtain ⟨inf, hinf, hi1, hi2, hi3⟩ := rule_info
                  refine WX.ev (Ev.appendN (e := 32) (i := 4) (xs := rulesW done) (ys := ruleW ((qg, qc), ls, true)) Tryz.underlying27 hinf hi1 hi2 hi3 rfl (by decide) rfl rfl rfl (fun w hw j v hj => by
                    rw [addr_add]
                    exact hw.rowCell 0 rfl hj) rfl (fun u hu => by
                    simp only [ruleW, List.mem_cons, List.not_mem_nil, or_false] at hu
                    rcases hu with rfl | rfl <;> rfl) (by unfold maxLen; omega) (by omega)) rfl rfl rfl rfl (fun p2 _ => ?_)
                  (refine r_as rfl rfl <| r_nl <| WE.blk_n <| WE.then_n h58 <| c_rg <| r_mv rfl rfl <| r_ad rfl rfl rfl (wadd64 (by omega)) <| r_as rfl rfl <| r_nl ?_; rotate_left)
                  refine WE.back (i + 1, ⟨done ++ [((qg, qc), ls, true)], p2⟩) ⟨by dsimp only; omega, by dsimp only; rw [List.length_append]; dsimp only [List.length]; omega, by dsimp only; rw [List.map_append]; exact hstep⟩ (by dsimp only; omega) ⟨rfl, rfl, by dsimp only; rw [List.length_append]; rfl, trivial⟩ (fun w hw => ?_)
                  have e1 : rulesW (done ++ [((qg, qc), ls, true)]) = rulesW done ++ ruleW ((qg, qc), ls, true) := by simp [rulesW]
                  have e3 : labsW (done ++ [((qg, qc), ls, true)]) = labsW done ++ [.own (some ⟨qg, 0, none⟩) qc ls.length (strsV ls) 9 1] := by simp [labsW]
                  have e4 : (done ++ [((qg, qc), ls, true)]).length = done.length + 1 := by simp
                  have h5 := Mem.pickL (m := [.blk a (ruleW ((qg, qc), ls, true)) 32, .own (some ⟨qg, 0, none⟩) qc ls.length (strsV ls) 9 1, OwnR pd cps, OwnS (some ⟨lg, 0, none⟩, lc) L, .own p2.1 p2.2 (done.length + 1) (rulesW done ++ ruleW ((qg, qc), ls, true)) 32 2]) (J := labsW done) (m' := [.own (some ⟨qg, 0, none⟩) qc ls.length (strsV ls) 9 1, OwnS (some ⟨lg, 0, none⟩, lc) L, .own p2.1 p2.2 (done.length + 1) (rulesW done ++ ruleW ((qg, qc), ls, true)) 32 2]) [1, 3, 4] (by decide) rfl w hw
                  have h6 := Mem.rot w h5
                  dsimp only [QM]
                  rw [e1, e3, e4]
                  exact h6
            · (refine r_as rfl rfl <| r_nx h60 <| c_sq fun k84 h84 => c_sq fun k86 h86 => c_rg <| r_mv rfl rfl ?_; rotate_left)
              refine r_seq rfl rfl (fun _ => by kernel_rfl) rfl ?_
              rw [decide_eq_false hW0]
              (refine r_mv rfl rfl <| r_mv rfl rfl <| r_lS Tryz.underlying9 rfl rfl <| r_gtF rfl rfl rfl (by omega) <| r_mv rfl rfl <| r_sk rfl rfl <| r_sk rfl rfl <| r_sk rfl rfl <| r_pF rfl rfl rfl <| r_pF rfl rfl rfl <| r_nx h86 <| c_cF rfl <| c_sk <| WE.then_n h84 <| c_sq fun k88 h88 => c_rg <| r_mv rfl rfl ?_; rotate_left)
              refine r_iS (v := c0) Tryz.underlying9 rfl rfl rfl (by decide) (by rw [← Array.getElem?_toList]; exact hc0) ?_
              (refine r_eqT rfl rfl rfl (by omega) <| r_as rfl rfl <| r_nx h88 <| c_sq fun k90 h90 => c_sq fun k92 h92 => c_rg <| r_mv rfl rfl <| r_nx h92 <| c_cT rfl <| c_rg <| r_mv rfl rfl ?_; rotate_left)
              refine r_sF Tryz.underlying9 rfl rfl (by decide) (by omega) rfl ?_
              rw [show W.extract (1 : Int).toNat W.size = nameP W by unfold nameP; rw [if_pos hpb]; rfl]
              (refine r_as rfl rfl <| r_nx h90 <| c_sq fun k94 h94 => c_rg <| r_mv rfl rfl ?_; rotate_left)
              refine WX.call (m1 := []) (m2 := _) rfl rfl rfl (udec_spec (nameP W) (by omega) _ _) rfl rfl (fun pd _ => ?_)
              generalize decUP (nameP W) = cps at hA1 hA2 hA3 hA4 hR32 hrule ⊢
              refine WX.pure rfl rfl (rall_spec _ _ cps hA1 (fun x hx => hR32 x hx) hA3 _ _ (Rd.own 0 rfl)) rfl rfl ?_
              cases hall : allP cps with
              | error n =>
                rw [hall] at hrule
                have hn0 := allP_err hall
                have hnone : (ruleP W).toList = [] := by rw [hrule]; rfl
                rw [hnone, List.append_nil] at hstep
                simp only [allR]
                (refine r_mv rfl rfl <| r_ex rfl rfl rfl <| r_ex rfl rfl rfl <| r_as rfl rfl <| r_as rfl rfl <| r_nx h94 <| c_sq fun k102 h102 => c_rg <| r_mv rfl rfl ?_; rotate_left)
                refine WX.call (m1 := []) (m2 := _) rfl rfl rfl (rlabels_spec ⟨#[]⟩ (by decide) _ _) rfl rfl (fun q _ => ?_)
                rw [labelsP_nil]
                simp only [labVR, labMR]
                (refine r_mv rfl rfl <| r_ex rfl rfl rfl <| r_ex rfl rfl rfl <| r_as rfl rfl <| r_as rfl rfl <| r_nx h102 <| c_sq fun k106 h106 => c_rg <| r_mv rfl rfl <| r_eqF rfl rfl rfl (by omega) <| r_mv rfl rfl <| r_sk rfl rfl <| r_pF rfl rfl rfl <| r_nx h106 <| c_cF rfl <| c_sk <| WE.blk_n <| WE.then_n h58 <| c_rg <| r_mv rfl rfl <| r_ad rfl rfl rfl (wadd64 (by omega)) <| r_as rfl rfl <| r_nl ?_; rotate_left)
                exact WE.back (i + 1, ⟨done, p⟩) ⟨by dsimp only; omega, by dsimp only; omega, hstep⟩ (by dsimp only; omega) ⟨rfl, rfl, rfl, trivial⟩ (fun w h => Mem.tail h)
              | ok d =>
                rw [hall] at hrule
                have hd4 := hA4 d hall
                simp only [allR]
                (refine r_mv rfl rfl <| r_ex rfl rfl rfl <| r_ex rfl rfl rfl <| r_as rfl rfl <| r_as rfl rfl <| r_nx h94 <| c_sq fun k111 h111 => c_rg <| r_mv rfl rfl ?_; rotate_left)
                refine WX.call (m1 := []) (m2 := _) rfl rfl rfl (rlabels_spec d hd4 _ _) rfl rfl (fun q _ => ?_)
                cases hlab : labelsP d with
                | none =>
                  have hnone : (ruleP W).toList = [] := by rw [hrule]; dsimp only; rw [hlab]; rfl
                  rw [hnone, List.append_nil] at hstep
                  simp only [labVR, labMR]
                  (refine r_mv rfl rfl <| r_ex rfl rfl rfl <| r_ex rfl rfl rfl <| r_as rfl rfl <| r_as rfl rfl <| r_nx h111 <| c_sq fun k107 h107 => c_rg <| r_mv rfl rfl <| r_eqT rfl rfl rfl (by omega) <| r_mv rfl rfl <| r_mv rfl rfl <| r_pT rfl rfl rfl <| r_nx h107 <| c_cF rfl <| c_sk <| WE.blk_n <| WE.then_n h58 <| c_rg <| r_mv rfl rfl <| r_ad rfl rfl rfl (wadd64 (by omega)) <| r_as rfl rfl <| r_nl ?_; rotate_left)
                  exact WE.back (i + 1, ⟨done, p⟩) ⟨by dsimp only; omega, by dsimp only; omega, hstep⟩ (by dsimp only; omega) ⟨rfl, rfl, rfl, trivial⟩ (fun w h => Mem.tail h)
                | some ls =>
                  have hsome : (ruleP W).toList = [(ls, true)] := by rw [hrule]; dsimp only; rw [hlab]; rfl
                  rw [hsome] at hstep
                  have hlp := labelsP_pos hlab
                  simp only [labVR, labMR]
                  obtain ⟨qA, qc⟩ := q
                  refine WX.formM (A := qA) (c := qc) (n := ls.length) (xs := strsV ls) (e := 9) (sz := 1) (by simp) (fun hfq => ?_)
                  obtain ⟨qg, rfl⟩ := hfq hlp
                  (refine r_mv rfl rfl <| r_ex rfl rfl rfl <| r_ex rfl rfl rfl <| r_as rfl rfl <| r_as rfl rfl <| r_nx h111 <| c_sq fun k127 h127 => c_rg <| r_mv rfl rfl <| r_eqT rfl rfl rfl (by omega) <| r_mv rfl rfl <| r_mv rfl rfl <| r_pT rfl rfl rfl <| r_nx h127 <| c_cT rfl <| c_rg <| r_mv rfl rfl <| r_mv rfl rfl <| r_mv rfl rfl <| r_bd rfl (fun _ => by kernel_rfl) rfl ?_)
                  refine WX.ev (Ev.buildSlice (e := 32) (vs := [(0, .agg #[.slice (some ⟨qg, 0, none⟩) ls.length qc, .bool true])]) (cs := ruleW ((qg, qc), ls, true)) rfl (fun w => by kernel_rfl)) rfl rfl rfl rfl (fun a _ => ?_)
                  obtain ⟨inf, hinf, hi1, hi2, hi3⟩ := rule_info
                  refine WX.ev (Ev.appendN (e := 32) (i := 4) (xs := rulesW done) (ys := ruleW ((qg, qc), ls, true)) Tryz.underlying27 hinf hi1 hi2 hi3 rfl (by decide) rfl rfl rfl (fun w hw j v hj => by
                    rw [addr_add]
                    exact hw.rowCell 0 rfl hj) rfl (fun u hu => by
                    simp only [ruleW, List.mem_cons, List.not_mem_nil, or_false] at hu
                    rcases hu with rfl | rfl <;> rfl) (by unfold maxLen; omega) (by omega)) rfl rfl rfl rfl (fun p2 _ => ?_)
                  (refine r_as rfl rfl <| r_nl <| WE.blk_n <| WE.then_n h58 <| c_rg <| r_mv rfl rfl <| r_ad rfl rfl rfl (wadd64 (by omega)) <| r_as rfl rfl <| r_nl ?_; rotate_left)
                  refine WE.back (i + 1, ⟨done ++ [((qg, qc), ls, true)], p2⟩) ⟨by dsimp only; omega, by dsimp only; rw [List.length_append]; dsimp only [List.length]; omega, by dsimp only; rw [List.map_append]; exact hstep⟩ (by dsimp only; omega) ⟨rfl, rfl, by dsimp only; rw [List.length_append]; rfl, trivial⟩ (fun w hw => ?_)
                  have e1 : rulesW (done ++ [((qg, qc), ls, true)]) = rulesW done ++ ruleW ((qg, qc), ls, true) := by simp [rulesW]
                  have e3 : labsW (done ++ [((qg, qc), ls, true)]) = labsW done ++ [.own (some ⟨qg, 0, none⟩) qc ls.length (strsV ls) 9 1] := by simp [labsW]
                  have e4 : (done ++ [((qg, qc), ls, true)]).length = done.length + 1 := by simp
                  have h5 := Mem.pickL (m := [.blk a (ruleW ((qg, qc), ls, true)) 32, .own (some ⟨qg, 0, none⟩) qc ls.length (strsV ls) 9 1, OwnR pd cps, OwnS (some ⟨lg, 0, none⟩, lc) L, .own p2.1 p2.2 (done.length + 1) (rulesW done ++ ruleW ((qg, qc), ls, true)) 32 2]) (J := labsW done) (m' := [.own (some ⟨qg, 0, none⟩) qc ls.length (strsV ls) 9 1, OwnS (some ⟨lg, 0, none⟩, lc) L, .own p2.1 p2.2 (done.length + 1) (rulesW done ++ ruleW ((qg, qc), ls, true)) 32 2]) [1, 3, 4] (by decide) rfl w hw
                  have h6 := Mem.rot w h5
                  dsimp only [QM]
                  rw [e1, e3, e4]
                  exact h6
          | false =>
            rw [hpb] at hph hrule
            have hc33 : ¬ c0.toNat = 33 := of_decide_eq_false hph.symm
            by_cases hW1 : 1 < W.size
            · have hW3 : ¬ W.extract 0 2 = ⟨#[47, 47]⟩ := fun h => hW2 ⟨hW1, h⟩
              (refine r_as rfl rfl <| r_nx h60 <| c_sq fun k85 h85 => c_sq fun k87 h87 => c_rg <| r_mv rfl rfl ?_; rotate_left)
              refine r_seq rfl rfl (fun _ => by kernel_rfl) rfl ?_
              rw [decide_eq_false hW0]
              (refine r_mv rfl rfl <| r_mv rfl rfl <| r_lS Tryz.underlying9 rfl rfl <| r_gtT rfl rfl rfl (by omega) <| r_mv rfl rfl <| r_mv rfl rfl ?_; rotate_left)
              refine r_sT Tryz.underlying9 rfl rfl (by omega) (by omega) rfl ?_
              refine r_seq (s' := ⟨#[47, 47]⟩) rfl rfl (fun _ => by kernel_rfl) rfl ?_
              rw [show (2 : Int).toNat = 2 from rfl, decide_eq_false hW3]
              (refine r_pT rfl rfl rfl <| r_pF rfl rfl rfl <| r_nx h87 <| c_cF rfl <| c_sk <| WE.then_n h85 <| c_sq fun k89 h89 => c_rg <| r_mv rfl rfl ?_; rotate_left)
              refine r_iS (v := c0) Tryz.underlying9 rfl rfl rfl (by decide) (by rw [← Array.getElem?_toList]; exact hc0) ?_
              (refine r_eqF rfl rfl rfl (by omega) <| r_as rfl rfl <| r_nx h89 <| c_sq fun k91 h91 => c_sq fun k93 h93 => c_rg <| r_mv rfl rfl <| r_nx h93 <| c_cF rfl <| c_sk <| WE.then_n h91 <| c_sq fun k95 h95 => c_rg <| r_mv rfl rfl ?_; rotate_left)
              refine WX.call (m1 := []) (m2 := _) rfl rfl rfl (udec_spec W (by omega) _ _) rfl rfl (fun pd _ => ?_)
              rw [show decUP W = decUP (nameP W) by unfold nameP; rw [if_neg (by rw [hpb]; decide)]]
              generalize decUP (nameP W) = cps at hA1 hA2 hA3 hA4 hR32 hrule ⊢
              refine WX.pure rfl rfl (rall_spec _ _ cps hA1 (fun x hx => hR32 x hx) hA3 _ _ (Rd.own 0 rfl)) rfl rfl ?_
              cases hall : allP cps with
              | error n =>
                rw [hall] at hrule
                have hn0 := allP_err hall
                have hnone : (ruleP W).toList = [] := by rw [hrule]; rfl
                rw [hnone, List.append_nil] at hstep
                simp only [allR]
                (refine r_mv rfl rfl <| r_ex rfl rfl rfl <| r_ex rfl rfl rfl <| r_as rfl rfl <| r_as rfl rfl <| r_nx h95 <| c_sq fun k103 h103 => c_rg <| r_mv rfl rfl ?_; rotate_left)
                refine WX.call (m1 := []) (m2 := _) rfl rfl rfl (rlabels_spec ⟨#[]⟩ (by decide) _ _) rfl rfl (fun q _ => ?_)
                rw [labelsP_nil]
                simp only [labVR, labMR]
                (refine r_mv rfl rfl <| r_ex rfl rfl rfl <| r_ex rfl rfl rfl <| r_as rfl rfl <| r_as rfl rfl <| r_nx h103 <| c_sq fun k107 h107 => c_rg <| r_mv rfl rfl <| r_eqF rfl rfl rfl (by omega) <| r_mv rfl rfl <| r_sk rfl rfl <| r_pF rfl rfl rfl <| r_nx h107 <| c_cF rfl <| c_sk <| WE.blk_n <| WE.then_n h58 <| c_rg <| r_mv rfl rfl <| r_ad rfl rfl rfl (wadd64 (by omega)) <| r_as rfl rfl <| r_nl ?_; rotate_left)
                exact WE.back (i + 1, ⟨done, p⟩) ⟨by dsimp only; omega, by dsimp only; omega, hstep⟩ (by dsimp only; omega) ⟨rfl, rfl, rfl, trivial⟩ (fun w h => Mem.tail h)
              | ok d =>
                rw [hall] at hrule
                have hd4 := hA4 d hall
                simp only [allR]
                (refine r_mv rfl rfl <| r_ex rfl rfl rfl <| r_ex rfl rfl rfl <| r_as rfl rfl <| r_as rfl rfl <| r_nx h95 <| c_sq fun k112 h112 => c_rg <| r_mv rfl rfl ?_; rotate_left)
                refine WX.call (m1 := []) (m2 := _) rfl rfl rfl (rlabels_spec d hd4 _ _) rfl rfl (fun q _ => ?_)
                cases hlab : labelsP d with
                | none =>
                  have hnone : (ruleP W).toList = [] := by rw [hrule]; dsimp only; rw [hlab]; rfl
                  rw [hnone, List.append_nil] at hstep
                  simp only [labVR, labMR]
                  (refine r_mv rfl rfl <| r_ex rfl rfl rfl <| r_ex rfl rfl rfl <| r_as rfl rfl <| r_as rfl rfl <| r_nx h112 <| c_sq fun k108 h108 => c_rg <| r_mv rfl rfl <| r_eqT rfl rfl rfl (by omega) <| r_mv rfl rfl <| r_mv rfl rfl <| r_pT rfl rfl rfl <| r_nx h108 <| c_cF rfl <| c_sk <| WE.blk_n <| WE.then_n h58 <| c_rg <| r_mv rfl rfl <| r_ad rfl rfl rfl (wadd64 (by omega)) <| r_as rfl rfl <| r_nl ?_; rotate_left)
                  exact WE.back (i + 1, ⟨done, p⟩) ⟨by dsimp only; omega, by dsimp only; omega, hstep⟩ (by dsimp only; omega) ⟨rfl, rfl, rfl, trivial⟩ (fun w h => Mem.tail h)
                | some ls =>
                  have hsome : (ruleP W).toList = [(ls, false)] := by rw [hrule]; dsimp only; rw [hlab]; rfl
                  rw [hsome] at hstep
                  have hlp := labelsP_pos hlab
                  simp only [labVR, labMR]
                  obtain ⟨qA, qc⟩ := q
                  refine WX.formM (A := qA) (c := qc) (n := ls.length) (xs := strsV ls) (e := 9) (sz := 1) (by simp) (fun hfq => ?_)
                  obtain ⟨qg, rfl⟩ := hfq hlp
                  (refine r_mv rfl rfl <| r_ex rfl rfl rfl <| r_ex rfl rfl rfl <| r_as rfl rfl <| r_as rfl rfl <| r_nx h112 <| c_sq fun k128 h128 => c_rg <| r_mv rfl rfl <| r_eqT rfl rfl rfl (by omega) <| r_mv rfl rfl <| r_mv rfl rfl <| r_pT rfl rfl rfl <| r_nx h128 <| c_cT rfl <| c_rg <| r_mv rfl rfl <| r_mv rfl rfl <| r_mv rfl rfl <| r_bd rfl (fun _ => by kernel_rfl) rfl ?_)
                  refine WX.ev (Ev.buildSlice (e := 32) (vs := [(0, .agg #[.slice (some ⟨qg, 0, none⟩) ls.length qc, .bool false])]) (cs := ruleW ((qg, qc), ls, false)) rfl (fun w => by kernel_rfl)) rfl rfl rfl rfl (fun a _ => ?_)
                  obtain ⟨inf, hinf, hi1, hi2, hi3⟩ := rule_info
                  refine WX.ev (Ev.appendN (e := 32) (i := 4) (xs := rulesW done) (ys := ruleW ((qg, qc), ls, false)) Tryz.underlying27 hinf hi1 hi2 hi3 rfl (by decide) rfl rfl rfl (fun w hw j v hj => by
                    rw [addr_add]
                    exact hw.rowCell 0 rfl hj) rfl (fun u hu => by
                    simp only [ruleW, List.mem_cons, List.not_mem_nil, or_false] at hu
                    rcases hu with rfl | rfl <;> rfl) (by unfold maxLen; omega) (by omega)) rfl rfl rfl rfl (fun p2 _ => ?_)
                  (refine r_as rfl rfl <| r_nl <| WE.blk_n <| WE.then_n h58 <| c_rg <| r_mv rfl rfl <| r_ad rfl rfl rfl (wadd64 (by omega)) <| r_as rfl rfl <| r_nl ?_; rotate_left)
                  refine WE.back (i + 1, ⟨done ++ [((qg, qc), ls, false)], p2⟩) ⟨by dsimp only; omega, by dsimp only; rw [List.length_append]; dsimp only [List.length]; omega, by dsimp only; rw [List.map_append]; exact hstep⟩ (by dsimp only; omega) ⟨rfl, rfl, by dsimp only; rw [List.length_append]; rfl, trivial⟩ (fun w hw => ?_)
                  have e1 : rulesW (done ++ [((qg, qc), ls, false)]) = rulesW done ++ ruleW ((qg, qc), ls, false) := by simp [rulesW]
                  have e3 : labsW (done ++ [((qg, qc), ls, false)]) = labsW done ++ [.own (some ⟨qg, 0, none⟩) qc ls.length (strsV ls) 9 1] := by simp [labsW]
                  have e4 : (done ++ [((qg, qc), ls, false)]).length = done.length + 1 := by simp
                  have h5 := Mem.pickL (m := [.blk a (ruleW ((qg, qc), ls, false)) 32, .own (some ⟨qg, 0, none⟩) qc ls.length (strsV ls) 9 1, OwnR pd cps, OwnS (some ⟨lg, 0, none⟩, lc) L, .own p2.1 p2.2 (done.length + 1) (rulesW done ++ ruleW ((qg, qc), ls, false)) 32 2]) (J := labsW done) (m' := [.own (some ⟨qg, 0, none⟩) qc ls.length (strsV ls) 9 1, OwnS (some ⟨lg, 0, none⟩, lc) L, .own p2.1 p2.2 (done.length + 1) (rulesW done ++ ruleW ((qg, qc), ls, false)) 32 2]) [1, 3, 4] (by decide) rfl w hw
                  have h6 := Mem.rot w h5
                  dsimp only [QM]
                  rw [e1, e3, e4]
                  exact h6
            · (refine r_as rfl rfl <| r_nx h60 <| c_sq fun k84 h84 => c_sq fun k86 h86 => c_rg <| r_mv rfl rfl ?_; rotate_left)
              refine r_seq rfl rfl (fun _ => by kernel_rfl) rfl ?_
              rw [decide_eq_false hW0]
              (refine r_mv rfl rfl <| r_mv rfl rfl <| r_lS Tryz.underlying9 rfl rfl <| r_gtF rfl rfl rfl (by omega) <| r_mv rfl rfl <| r_sk rfl rfl <| r_sk rfl rfl <| r_sk rfl rfl <| r_pF rfl rfl rfl <| r_pF rfl rfl rfl <| r_nx h86 <| c_cF rfl <| c_sk <| WE.then_n h84 <| c_sq fun k88 h88 => c_rg <| r_mv rfl rfl ?_; rotate_left)
              refine r_iS (v := c0) Tryz.underlying9 rfl rfl rfl (by decide) (by rw [← Array.getElem?_toList]; exact hc0) ?_
              (refine r_eqF rfl rfl rfl (by omega) <| r_as rfl rfl <| r_nx h88 <| c_sq fun k90 h90 => c_sq fun k92 h92 => c_rg <| r_mv rfl rfl <| r_nx h92 <| c_cF rfl <| c_sk <| WE.then_n h90 <| c_sq fun k94 h94 => c_rg <| r_mv rfl rfl ?_; rotate_left)
              refine WX.call (m1 := []) (m2 := _) rfl rfl rfl (udec_spec W (by omega) _ _) rfl rfl (fun pd _ => ?_)
              rw [show decUP W = decUP (nameP W) by unfold nameP; rw [if_neg (by rw [hpb]; decide)]]
              generalize decUP (nameP W) = cps at hA1 hA2 hA3 hA4 hR32 hrule ⊢
              refine WX.pure rfl rfl (rall_spec _ _ cps hA1 (fun x hx => hR32 x hx) hA3 _ _ (Rd.own 0 rfl)) rfl rfl ?_
              cases hall : allP cps with
              | error n =>
                rw [hall] at hrule
                have hn0 := allP_err hall
                have hnone : (ruleP W).toList = [] := by rw [hrule]; rfl
                rw [hnone, List.append_nil] at hstep
                simp only [allR]
                (refine r_mv rfl rfl <| r_ex rfl rfl rfl <| r_ex rfl rfl rfl <| r_as rfl rfl <| r_as rfl rfl <| r_nx h94 <| c_sq fun k102 h102 => c_rg <| r_mv rfl rfl ?_; rotate_left)
                refine WX.call (m1 := []) (m2 := _) rfl rfl rfl (rlabels_spec ⟨#[]⟩ (by decide) _ _) rfl rfl (fun q _ => ?_)
                rw [labelsP_nil]
                simp only [labVR, labMR]
                (refine r_mv rfl rfl <| r_ex rfl rfl rfl <| r_ex rfl rfl rfl <| r_as rfl rfl <| r_as rfl rfl <| r_nx h102 <| c_sq fun k106 h106 => c_rg <| r_mv rfl rfl <| r_eqF rfl rfl rfl (by omega) <| r_mv rfl rfl <| r_sk rfl rfl <| r_pF rfl rfl rfl <| r_nx h106 <| c_cF rfl <| c_sk <| WE.blk_n <| WE.then_n h58 <| c_rg <| r_mv rfl rfl <| r_ad rfl rfl rfl (wadd64 (by omega)) <| r_as rfl rfl <| r_nl ?_; rotate_left)
                exact WE.back (i + 1, ⟨done, p⟩) ⟨by dsimp only; omega, by dsimp only; omega, hstep⟩ (by dsimp only; omega) ⟨rfl, rfl, rfl, trivial⟩ (fun w h => Mem.tail h)
              | ok d =>
                rw [hall] at hrule
                have hd4 := hA4 d hall
                simp only [allR]
                (refine r_mv rfl rfl <| r_ex rfl rfl rfl <| r_ex rfl rfl rfl <| r_as rfl rfl <| r_as rfl rfl <| r_nx h94 <| c_sq fun k111 h111 => c_rg <| r_mv rfl rfl ?_; rotate_left)
                refine WX.call (m1 := []) (m2 := _) rfl rfl rfl (rlabels_spec d hd4 _ _) rfl rfl (fun q _ => ?_)
                cases hlab : labelsP d with
                | none =>
                  have hnone : (ruleP W).toList = [] := by rw [hrule]; dsimp only; rw [hlab]; rfl
                  rw [hnone, List.append_nil] at hstep
                  simp only [labVR, labMR]
                  (refine r_mv rfl rfl <| r_ex rfl rfl rfl <| r_ex rfl rfl rfl <| r_as rfl rfl <| r_as rfl rfl <| r_nx h111 <| c_sq fun k107 h107 => c_rg <| r_mv rfl rfl <| r_eqT rfl rfl rfl (by omega) <| r_mv rfl rfl <| r_mv rfl rfl <| r_pT rfl rfl rfl <| r_nx h107 <| c_cF rfl <| c_sk <| WE.blk_n <| WE.then_n h58 <| c_rg <| r_mv rfl rfl <| r_ad rfl rfl rfl (wadd64 (by omega)) <| r_as rfl rfl <| r_nl ?_; rotate_left)
                  exact WE.back (i + 1, ⟨done, p⟩) ⟨by dsimp only; omega, by dsimp only; omega, hstep⟩ (by dsimp only; omega) ⟨rfl, rfl, rfl, trivial⟩ (fun w h => Mem.tail h)
                | some ls =>
                  have hsome : (ruleP W).toList = [(ls, false)] := by rw [hrule]; dsimp only; rw [hlab]; rfl
                  rw [hsome] at hstep
                  have hlp := labelsP_pos hlab
                  simp only [labVR, labMR]
                  obtain ⟨qA, qc⟩ := q
                  refine WX.formM (A := qA) (c := qc) (n := ls.length) (xs := strsV ls) (e := 9) (sz := 1) (by simp) (fun hfq => ?_)
                  obtain ⟨qg, rfl⟩ := hfq hlp
                  (refine r_mv rfl rfl <| r_ex rfl rfl rfl <| r_ex rfl rfl rfl <| r_as rfl rfl <| r_as rfl rfl <| r_nx h111 <| c_sq fun k127 h127 => c_rg <| r_mv rfl rfl <| r_eqT rfl rfl rfl (by omega) <| r_mv rfl rfl <| r_mv rfl rfl <| r_pT rfl rfl rfl <| r_nx h127 <| c_cT rfl <| c_rg <| r_mv rfl rfl <| r_mv rfl rfl <| r_mv rfl rfl <| r_bd rfl (fun _ => by kernel_rfl) rfl ?_)
                  refine WX.ev (Ev.buildSlice (e := 32) (vs := [(0, .agg #[.slice (some ⟨qg, 0, none⟩) ls.length qc, .bool false])]) (cs := ruleW ((qg, qc), ls, false)) rfl (fun w => by kernel_rfl)) rfl rfl rfl rfl (fun a _ => ?_)
                  obtain ⟨inf, hinf, hi1, hi2, hi3⟩ := rule_info
                  refine WX.ev (Ev.appendN (e := 32) (i := 4) (xs := rulesW done) (ys := ruleW ((qg, qc), ls, false)) Tryz.underlying27 hinf hi1 hi2 hi3 rfl (by decide) rfl rfl rfl (fun w hw j v hj => by
                    rw [addr_add]
                    exact hw.rowCell 0 rfl hj) rfl (fun u hu => by
                    simp only [ruleW, List.mem_cons, List.not_mem_nil, or_false] at hu
                    rcases hu with rfl | rfl <;> rfl) (by unfold maxLen; omega) (by omega)) rfl rfl rfl rfl (fun p2 _ => ?_)
                  (refine r_as rfl rfl <| r_nl <| WE.blk_n <| WE.then_n h58 <| c_rg <| r_mv rfl rfl <| r_ad rfl rfl rfl (wadd64 (by omega)) <| r_as rfl rfl <| r_nl ?_; rotate_left)
                  refine WE.back (i + 1, ⟨done ++ [((qg, qc), ls, false)], p2⟩) ⟨by dsimp only; omega, by dsimp only; rw [List.length_append]; dsimp only [List.length]; omega, by dsimp only; rw [List.map_append]; exact hstep⟩ (by dsimp only; omega) ⟨rfl, rfl, by dsimp only; rw [List.length_append]; rfl, trivial⟩ (fun w hw => ?_)
                  have e1 : rulesW (done ++ [((qg, qc), ls, false)]) = rulesW done ++ ruleW ((qg, qc), ls, false) := by simp [rulesW]
                  have e3 : labsW (done ++ [((qg, qc), ls, false)]) = labsW done ++ [.own (some ⟨qg, 0, none⟩) qc ls.length (strsV ls) 9 1] := by simp [labsW]
                  have e4 : (done ++ [((qg, qc), ls, false)]).length = done.length + 1 := by simp
                  have h5 := Mem.pickL (m := [.blk a (ruleW ((qg, qc), ls, false)) 32, .own (some ⟨qg, 0, none⟩) qc ls.length (strsV ls) 9 1, OwnR pd cps, OwnS (some ⟨lg, 0, none⟩, lc) L, .own p2.1 p2.2 (done.length + 1) (rulesW done ++ ruleW ((qg, qc), ls, false)) 32 2]) (J := labsW done) (m' := [.own (some ⟨qg, 0, none⟩) qc ls.length (strsV ls) 9 1, OwnS (some ⟨lg, 0, none⟩, lc) L, .own p2.1 p2.2 (done.length + 1) (rulesW done ++ ruleW ((qg, qc), ls, false)) 32 2]) [1, 3, 4] (by decide) rfl w hw
                  have h6 := Mem.rot w h5
                  dsimp only [QM]
                  rw [e1, e3, e4]
                  exact h6
    · have hie : i = L.length := by omega
      subst hie
      rw [List.take_length] at hd
      (refine c_sq fun k43 h43 => c_sq fun k45 h45 => c_rg <| r_mv rfl rfl <| r_mv rfl rfl <| r_ls Tryz.underlying23 rfl rfl <| r_ltF rfl rfl rfl (by omega) <| r_nx h45 <| c_cF rfl <| c_ex <| WE.then_x <| WE.then_x <| WE.blk_x <| WE.then_n h31 <| c_sq fun k47 h47 => c_rg <| r_mv rfl rfl <| r_as rfl rfl <| r_nx h47 <| c_rt ?_; rotate_left)
      exact WE.ret1 ⟨done, p⟩ rfl rfl rfl (by rw [hP]; exact hd) (fun w hw => Mem.tail hw)
end Go.Proofs.YtkggplnigjlegaaGreatDoor

/- RulesParse: the law's walk. -/
set_option linter.unusedVariables false
set_option linter.unusedSimpArgs false
namespace Go.Proofs.YtkggplnigjlegaaGreatDoor
open Go.RowKit Go.Gp

set_option maxRecDepth 100000 in
theorem rulesParse_spec (s name : ByteArray) (w0 : World) (m0 : List Res) : PureC Tryz.prog 3 [.string s, .string name] w0 m0 (.bool true) := by
  by_cases hs : s.size ≤ 300
  · by_cases hn : name.size ≤ 100
    · have hls := parse_lens (s := s) (by omega)
      refine Ct.of Tryz.func3 rfl (by kernel_rfl) rfl ?_
      (refine c_sq fun k8 h8 => c_rg <| r_as rfl rfl <| r_nx h8 <| c_sq fun k10 h10 => c_rg ?_; rotate_left)
      refine WX.pure rfl rfl (awake15_spec _ _) rfl rfl ?_
      (refine r_as rfl rfl <| r_nx h10 <| c_sq fun k12 h12 => c_sq fun k14 h14 => c_rg <| r_mv rfl rfl <| r_lS Tryz.underlying9 rfl rfl <| r_gtF rfl rfl rfl (by omega) <| r_mv rfl rfl <| r_mv rfl rfl <| r_lS Tryz.underlying9 rfl rfl <| r_gtF rfl rfl rfl (by omega) <| r_pF rfl rfl rfl <| r_nx h14 <| c_cF rfl <| c_sk <| WE.then_n h12 <| c_sq fun k16 h16 => c_rg <| r_mv rfl rfl ?_; rotate_left)
      refine WX.call (m1 := []) (m2 := _) rfl rfl rfl (labels_spec name (by omega) _ _) rfl rfl (fun bl _ => ?_)
      obtain ⟨R, hR⟩ : ∃ R, labelsP name = R := ⟨_, rfl⟩
      have hrl := fun mm => rlabels_spec name (by omega) w0 mm
      rw [hR] at hrl ⊢
      cases R with
      | none =>
        simp only [labV, labM]
        (refine r_mv rfl rfl <| r_ex rfl rfl rfl <| r_ex rfl rfl rfl <| r_as rfl rfl <| r_as rfl rfl <| r_nx h16 <| c_sq fun k22 h22 => c_rg <| r_mv rfl rfl ?_; rotate_left)
        refine WX.call (m1 := []) (m2 := _) rfl rfl rfl (hrl _) rfl rfl (fun q _ => ?_)
        simp only [labV, labM, labVR, labMR]
        (refine r_mv rfl rfl <| r_ex rfl rfl rfl <| r_ex rfl rfl rfl <| r_as rfl rfl <| r_as rfl rfl <| r_nx h22 <| c_sq fun k26 h26 => c_rg <| r_mv rfl rfl <| r_mv rfl rfl <| r_mv rfl rfl ?_; rotate_left)
        refine WX.call (m1 := []) (m2 := _) rfl rfl rfl (parse_spec s (by omega) (words_ok (by omega)) _ _) rfl rfl (fun x hx => ?_)
        obtain ⟨da, pA, pc⟩ := x
        dsimp only at hx
        have hda : da.length ≤ 5001 := by have := congrArg List.length hx; simp at this; omega
        refine WX.formM (A := pA) (c := pc) (n := da.length) (xs := rulesV da) (e := 32) (sz := 2) (by simp [PM]) (fun hfa => ?_)
        (refine r_mv rfl rfl ?_; rotate_left)
        refine WX.call (m1 := []) (m2 := _) rfl rfl rfl (rparse_spec s (by omega) (words_ok (by omega)) _ _) rfl rfl (fun y hy => ?_)
        obtain ⟨db, zA, zc⟩ := y
        dsimp only at hy
        have hsame : da.map (·.2) = db.map (·.2) := hx.trans hy.symm
        refine WX.formM (A := zA) (c := zc) (n := db.length) (xs := rulesW db) (e := 32) (sz := 2) (by simp [QM]) (fun hfb => ?_)
        (rotate_left)
        refine WX.pure rfl rfl (sameG_spec pA zA pc zc da db hsame (by omega) (fun d hd => hls.2 d.2 (by rw [← hx]; exact List.mem_map.2 ⟨d, hd, rfl⟩)) _ _ (Rd.memN (c := pc) (n := da.length) (e := 32) (sz := 2) (by simp [PM])) (Rd.memN (c := zc) (n := db.length) (e := 32) (sz := 2) (by simp [QM])) hfa hfb ?_ ?_) rfl rfl ?_
        · intro d hd
          refine Rd.mem (e := 9) ?_
          have h1 : Res.blk d.1 (strsV d.2.1) 9 ∈ labsM da := List.mem_map.2 ⟨d, hd, rfl⟩
          simp only [PM, QM, List.mem_append, List.mem_cons]
          simp [h1]
        · intro d hd
          refine Rd.memN (c := d.1.2) (n := d.2.1.length) (e := 9) (sz := 1) ?_
          have h1 : Res.own (some ⟨d.1.1, 0, none⟩) d.1.2 d.2.1.length (strsV d.2.1) 9 1 ∈ labsW db := List.mem_map.2 ⟨d, hd, rfl⟩
          simp only [PM, QM, List.mem_append, List.mem_cons]
          simp [h1]
        (refine r_pT rfl rfl rfl <| r_mv rfl rfl <| r_mv rfl rfl <| r_mv rfl rfl ?_; rotate_left)
        refine WX.pure rfl rfl (sameS_spec none none 0 0 [] (by decide) _ _ (by unfold Rd; intro w hw j v hj; simp [strsV] at hj) (by unfold Rd; intro w hw j v hj; simp [strsV] at hj) (fun h => absurd h (by decide)) (fun h => absurd h (by decide))) rfl rfl ?_
        (refine r_pT rfl rfl rfl <| r_mv rfl rfl <| r_mv rfl rfl <| r_mv rfl rfl <| r_bq Tryz.underlying4 rfl rfl rfl <| r_pT rfl rfl rfl <| r_as rfl rfl <| r_nx h26 <| c_rt ?_; rotate_left)
        exact WE.ret1 () rfl rfl rfl trivial Mem.drop
      | some ls =>
        have hlsz : ls.length ≤ 1000 := by
          unfold labelsP at hR
          split at hR
          · cases hR
          · injection hR with hR
            rw [← hR, List.length_reverse]
            have h1 := trimP_le (splitS 46 name)
            have h2 := splitS_len 46 name
            omega
        simp only [labV, labM]
        (refine r_mv rfl rfl <| r_ex rfl rfl rfl <| r_ex rfl rfl rfl <| r_as rfl rfl <| r_as rfl rfl <| r_nx h16 <| c_sq fun k28 h28 => c_rg <| r_mv rfl rfl ?_; rotate_left)
        refine WX.call (m1 := []) (m2 := _) rfl rfl rfl (hrl _) rfl rfl (fun q _ => ?_)
        simp only [labV, labM, labVR, labMR]
        obtain ⟨qA, qc⟩ := q
        refine WX.formM (A := qA) (c := qc) (n := ls.length) (xs := strsV ls) (e := 9) (sz := 1) (by simp) (fun hfq => ?_)
        (refine r_mv rfl rfl <| r_ex rfl rfl rfl <| r_ex rfl rfl rfl <| r_as rfl rfl <| r_as rfl rfl <| r_nx h28 <| c_sq fun k35 h35 => c_rg <| r_mv rfl rfl <| r_mv rfl rfl <| r_mv rfl rfl ?_; rotate_left)
        refine WX.call (m1 := []) (m2 := _) rfl rfl rfl (parse_spec s (by omega) (words_ok (by omega)) _ _) rfl rfl (fun x hx => ?_)
        obtain ⟨da, pA, pc⟩ := x
        dsimp only at hx
        have hda : da.length ≤ 5001 := by have := congrArg List.length hx; simp at this; omega
        refine WX.formM (A := pA) (c := pc) (n := da.length) (xs := rulesV da) (e := 32) (sz := 2) (by simp [PM]) (fun hfa => ?_)
        (refine r_mv rfl rfl ?_; rotate_left)
        refine WX.call (m1 := []) (m2 := _) rfl rfl rfl (rparse_spec s (by omega) (words_ok (by omega)) _ _) rfl rfl (fun y hy => ?_)
        obtain ⟨db, zA, zc⟩ := y
        dsimp only at hy
        have hsame : da.map (·.2) = db.map (·.2) := hx.trans hy.symm
        refine WX.formM (A := zA) (c := zc) (n := db.length) (xs := rulesW db) (e := 32) (sz := 2) (by simp [QM]) (fun hfb => ?_)
        (rotate_left)
        refine WX.pure rfl rfl (sameG_spec pA zA pc zc da db hsame (by omega) (fun d hd => hls.2 d.2 (by rw [← hx]; exact List.mem_map.2 ⟨d, hd, rfl⟩)) _ _ (Rd.memN (c := pc) (n := da.length) (e := 32) (sz := 2) (by simp [PM])) (Rd.memN (c := zc) (n := db.length) (e := 32) (sz := 2) (by simp [QM])) hfa hfb ?_ ?_) rfl rfl ?_
        · intro d hd
          refine Rd.mem (e := 9) ?_
          have h1 : Res.blk d.1 (strsV d.2.1) 9 ∈ labsM da := List.mem_map.2 ⟨d, hd, rfl⟩
          simp only [PM, QM, List.mem_append, List.mem_cons]
          simp [h1]
        · intro d hd
          refine Rd.memN (c := d.1.2) (n := d.2.1.length) (e := 9) (sz := 1) ?_
          have h1 : Res.own (some ⟨d.1.1, 0, none⟩) d.1.2 d.2.1.length (strsV d.2.1) 9 1 ∈ labsW db := List.mem_map.2 ⟨d, hd, rfl⟩
          simp only [PM, QM, List.mem_append, List.mem_cons]
          simp [h1]
        (refine r_pT rfl rfl rfl <| r_mv rfl rfl <| r_mv rfl rfl <| r_mv rfl rfl ?_; rotate_left)
        refine WX.pure rfl rfl (sameS_spec (some ⟨bl, 0, none⟩) qA ls.length qc ls (by omega) _ _ (Rd.mem (e := 9) (by simp)) (Rd.memN (c := qc) (n := ls.length) (e := 9) (sz := 1) (by simp)) (fun _ => rfl) (fun h => by obtain ⟨g, hg⟩ := hfq h; rw [hg]; rfl)) rfl rfl ?_
        (refine r_pT rfl rfl rfl <| r_mv rfl rfl <| r_mv rfl rfl <| r_mv rfl rfl <| r_bq Tryz.underlying4 rfl rfl rfl <| r_pT rfl rfl rfl <| r_as rfl rfl <| r_nx h35 <| c_rt ?_; rotate_left)
        exact WE.ret1 () rfl rfl rfl trivial Mem.drop
    · refine Ct.of Tryz.func3 rfl (by kernel_rfl) rfl ?_
      (refine c_sq fun k7 h7 => c_rg <| r_as rfl rfl <| r_nx h7 <| c_sq fun k9 h9 => c_rg ?_; rotate_left)
      refine WX.pure rfl rfl (awake15_spec _ _) rfl rfl ?_
      (refine r_as rfl rfl <| r_nx h9 <| c_sq fun k11 h11 => c_sq fun k13 h13 => c_rg <| r_mv rfl rfl <| r_lS Tryz.underlying9 rfl rfl <| r_gtF rfl rfl rfl (by omega) <| r_mv rfl rfl <| r_mv rfl rfl <| r_lS Tryz.underlying9 rfl rfl <| r_gtT rfl rfl rfl (by omega) <| r_pF rfl rfl rfl <| r_nx h13 <| c_cT rfl <| c_sq fun k15 h15 => c_rg <| r_mv rfl rfl <| r_as rfl rfl <| r_nx h15 <| c_rt <| WE.then_r ?_; rotate_left)
      exact WE.ret1 () rfl rfl rfl trivial Mem.drop
  · refine Ct.of Tryz.func3 rfl (by kernel_rfl) rfl ?_
    (refine c_sq fun k6 h6 => c_rg <| r_as rfl rfl <| r_nx h6 <| c_sq fun k8 h8 => c_rg ?_; rotate_left)
    refine WX.pure rfl rfl (awake15_spec _ _) rfl rfl ?_
    (refine r_as rfl rfl <| r_nx h8 <| c_sq fun k10 h10 => c_sq fun k12 h12 => c_rg <| r_mv rfl rfl <| r_lS Tryz.underlying9 rfl rfl <| r_gtT rfl rfl rfl (by omega) <| r_mv rfl rfl <| r_sk rfl rfl <| r_sk rfl rfl <| r_sk rfl rfl <| r_pT rfl rfl rfl <| r_nx h12 <| c_cT rfl <| c_sq fun k14 h14 => c_rg <| r_mv rfl rfl <| r_as rfl rfl <| r_nx h14 <| c_rt <| WE.then_r ?_; rotate_left)
    exact WE.ret1 () rfl rfl rfl trivial Mem.drop
end Go.Proofs.YtkggplnigjlegaaGreatDoor
