/- puny.Decode: the walk. -/
import Derived.Test.YthnabbidlmihbaaPunyR
import Derived.Test.YthnabbidlmihbaaInsert
import Derived.Test.YthnabbidlmihbaaLeaf
import Derived.Test.YthnabbidlmihbaaMore
namespace Go.Proofs.Ythnabbidlmihbaa
open Go.RowKit Go.Gp

/-- Plain bytes as code points. -/
def asc (s : ByteArray) : List Int := s.data.toList.map fun b => (b.toNat : Int)
theorem asc_length (s : ByteArray) : (asc s).length = s.size := by simp [asc]
theorem runesFrom_asc (s : ByteArray) (h : ∀ b ∈ s.data.toList, b.toNat < 128) : ∀ (k i : Nat) (acc : Array Value), i + k = s.size → Conv.runesFrom s k i acc = acc ++ (runes ((asc s).drop i)).toArray
  | 0, i, acc, hk => by
    have : (asc s).drop i = [] := List.drop_eq_nil_of_le (by rw [asc_length]; omega)
    rw [this]
    simp [Conv.runesFrom]
  | k + 1, i, acc, hk => by
    have hlt : i < s.size := by omega
    have hb : (s[i]'hlt).toNat < 128 := h _ (by
      have : s[i]'hlt = s.data.toList[i]'(by simpa using hlt) := by simp; rfl
      rw [this]
      exact List.getElem_mem _)
    have hla : i < (asc s).length := by rw [asc_length]; exact hlt
    rw [Conv.runesFrom, if_pos hlt, decode_ascii s i hlt hb]
    dsimp only
    rw [runesFrom_asc s h k (i + 1) _ (by omega), List.drop_eq_getElem_cons hla]
    have e : (asc s)[i] = ((s[i]'hlt).toNat : Int) := by
      simp [asc]
      rfl
    rw [e]
    apply Array.ext'
    simp
section
variable {C : Cx} {Q : Po} {l : List (Nat × Value)} {m : List Res} {ops : Array Oper} {rest : List Oper} {ty : TypeId} {pos : String} {af : Array Edge} {g : Option (Nat × Bool)} {d : Nat} {x : Operand} {t t2 e : TypeId}
theorem grown_da (w : World) (o : Obj) : w.grownBy (w.drew.alloc o) none :=
  let q := World.grownBy_alloc w.drew o none
  ⟨q.os, q.tape, q.output, q.size, q.block⟩
/-- []rune(s) of plain bytes. -/
theorem r_ru {s : ByteArray} (hs : C.P.underlying t = some .string) (hd : C.P.underlying t2 = some (.slice e)) (he : C.P.underlying e = some (.int .i32)) (hx : opv l x = some (.string s)) (ha : ∀ b ∈ s.data.toList, b.toNat < 128) (hn : s.size ≤ 1000000) (h : okk ops l g d C.n = true)
    (cc : ∀ p : Option Addr × Nat, WX false C Q ops rest ((d, SlR p (asc s)) :: l) (.own p.1 p.2 (asc s).length (runes (asc s)) e 1 :: m)) :
    WX false C Q ops (⟨some d, .convert t t2 x, ty, pos, af, g⟩ :: rest) l m :=
  WX.ev (α := Option Addr × Nat) (φ := fun _ => True) (v := fun p => SlR p (asc s)) (m' := fun p => .own p.1 p.2 (asc s).length (runes (asc s)) e 1 :: m) (fun ev hev w hw => by
    have h1 : Conv.runesFrom s s.size 0 #[] = (runes (asc s)).toArray := by rw [runesFrom_asc s ha s.size 0 #[] (by omega)]; simp
    have hsz : (runes (asc s)).toArray.size = (asc s).length := by simp
    have hrun := run_runes_of_string (P := C.P) w t t2 e s hs hd he (by rw [h1, hsz, asc_length]; omega)
    rw [h1, hsz] at hrun
    have hge := grownCap_ge w (asc s).length 0 e
    have hle := grownCap_le_maxLen w (asc s).length 0 e (by rw [asc_length]; unfold maxLen; omega)
    refine ⟨(some ⟨w.heap.size, 0, none⟩, grownCap w (asc s).length 0 e), w.drew.alloc (.cells ((runes (asc s)).toArray ++ Array.replicate (grownCap w (asc s).length 0 e - (asc s).length) (.int .i32 0)) e), trivial, ?_, ?_⟩
    · simp [execOp, hev x _ hx, hrun]
    · have hgb : w.grownBy (w.drew.alloc (.cells ((runes (asc s)).toArray ++ Array.replicate (grownCap w (asc s).length 0 e - (asc s).length) (.int .i32 0)) e)) none :=
        grown_da w _
      refine Mem.add hw hgb (r := .own (some ⟨w.heap.size, 0, none⟩) (grownCap w (asc s).length 0 e) (asc s).length (runes (asc s)) e 1) ?_ (fun k hk => by simp [Res.block] at hk; omega)
      refine ⟨by simp, .inr ⟨w.heap.size, grownCap w (asc s).length 0 e, _, rfl, hw.bnd, heap_alloc_new w.drew _, hge, hle, ?_, ?_⟩⟩
      · simp; omega
      · simp only [Array.toList_append]
        exact List.take_left' (by simp)) rfl (okk_1 h) (okk_2 h) rfl (fun p _ => cc p)
end
def decL : Nat → ByteArray → List Int → Int → Int → Int → Option (List Int)
  | 0, _, _, _, _, _ => none
  | f + 1, s, l, n, i, bias =>
    if s.size = 0 then some l
    else if (readP s bias).2 = 0 ∨ 1099511627776 < i + (readP s bias).1 then none
    else if 1114111 < n + (i + (readP s bias).1) / ((l.length : Int) + 1) ∨ ¬ ScP (n + (i + (readP s bias).1) / ((l.length : Int) + 1)) then none
    else decL f (s.extract (readP s bias).2.toNat s.size) (insL l ((i + (readP s bias).1) % ((l.length : Int) + 1)).toNat (n + (i + (readP s bias).1) / ((l.length : Int) + 1)))
      (n + (i + (readP s bias).1) / ((l.length : Int) + 1)) ((i + (readP s bias).1) % ((l.length : Int) + 1) + 1) (adaptP (readP s bias).1 ((l.length : Int) + 1) (decide (i = 0)))
theorem readL_bd (bias : Int) (hb : 0 ≤ bias ∧ bias ≤ 1000) : ∀ (r : List UInt8) (a : Nat) (i w : Int), (0 ≤ i ∧ i ≤ 1099511627776) → 1 ≤ w → (0 ≤ (readL bias r a i w).1 ∧ (readL bias r a i w).1 ≤ 1099511627776) ∧ ((readL bias r a i w).2 = 0 ∨ (1 ≤ (readL bias r a i w).2 ∧ (readL bias r a i w).2 ≤ a + r.length))
  | [], a, i, w, h1, h2 => by simp [readL]
  | c :: r, a, i, w, h1, h2 => by
    rw [readL]
    split
    · simp
    · rename_i g1
      have m5 : 0 ≤ valD (lowB c) * w := Int.mul_nonneg (by omega) (by omega)
      split
      · simp; omega
      · split
        · simp
        · have ht := thrP_bd (((a : Int) + 1) * 36) bias
          have m4 : w * 10 ≤ w * (36 - thrP (((a : Int) + 1) * 36) bias) := Int.mul_le_mul_of_nonneg_left (by omega) (by omega)
          have := readL_bd bias hb r (a + 1) (i + valD (lowB c) * w) (w * (36 - thrP (((a : Int) + 1) * 36) bias)) (by omega) (by omega)
          simp only [List.length_cons]
          omega
theorem readP_bd (s : ByteArray) (bias : Int) (hb : 0 ≤ bias ∧ bias ≤ 1000) : (0 ≤ (readP s bias).1 ∧ (readP s bias).1 ≤ 1099511627776) ∧ ((readP s bias).2 = 0 ∨ (1 ≤ (readP s bias).2 ∧ (readP s bias).2 ≤ s.size)) := by
  have := readL_bd bias hb s.data.toList 0 0 1 (by omega) (by omega)
  have e : s.data.toList.length = s.size := by simp
  unfold readP
  omega
def sPuny : ByteArray := ⟨#[112, 117, 110, 121]⟩
set_option maxRecDepth 100000 in
theorem wrong_spec (w0 : World) (m0 : List Res) : Ct (α := Nat) Try.prog 38 [] w0 [] m0 (fun _ => True) (fun b => ecv [(b, sPuny)] 2) (fun b => ecm [(b, sPuny)] 2) := by
  refine Ct.of Try.func38 rfl (by kernel_rfl) rfl ?_
  (refine c_sq fun k3 h3 => c_rg <| r_as rfl rfl <| r_nx h3 <| c_sq fun k5 h5 => c_rg <| r_mi rfl (fun _ => by kernel_rfl) rfl ?_; rotate_left)
  refine WX.call (m1 := []) (m2 := []) rfl rfl rfl (wrap_spec sPuny [] 2 _ _) rfl rfl (fun b _ => ?_)
  (refine r_as rfl rfl <| r_nx h5 <| c_rt ?_; rotate_left)
  exact WE.ret1 b rfl rfl rfl trivial Mem.keep
set_option maxRecDepth 100000 in
theorem noneD_spec (w0 : World) (m0 : List Res) : Ct (α := Nat) Try.prog 37 [] w0 [] m0 (fun _ => True) (fun b => .tuple #[.slice none 0 0, ecv [(b, sPuny)] 2]) (fun b => ecm [(b, sPuny)] 2) := by
  refine Ct.of Try.func37 rfl (by kernel_rfl) rfl ?_
  (refine c_sq fun k3 h3 => c_rg <| r_as rfl rfl <| r_as rfl rfl <| r_nx h3 <| c_sq fun k5 h5 => c_rg ?_; rotate_left)
  refine WX.call (m1 := []) (m2 := []) rfl rfl rfl (wrong_spec _ _) rfl rfl (fun b _ => ?_)
  (refine r_as rfl rfl <| r_as rfl rfl <| r_nx h5 <| c_rt ?_; rotate_left)
  exact WE.ret2 b rfl rfl rfl rfl rfl trivial Mem.keep

def decP (s : ByteArray) : Option (List Int) :=
  if s.data.toList.any (fun b => decide (128 ≤ b.toNat)) then none
  else if 0 < lastL s.data.toList 45 s.size then decL (s.size + 1) (s.extract (lastL s.data.toList 45 s.size + 1).toNat s.size) (asc (s.extract 0 (lastL s.data.toList 45 s.size).toNat)) 128 0 72
  else decL (s.size + 1) s [] 128 0 72
def decV : Option (List Int) → Nat × (Option Addr × Nat) → Value
  | none, x => .tuple #[.slice none 0 0, ecv [(x.1, sPuny)] 2]
  | some l, x => .tuple #[SlR x.2 l, .nilIface]
def decM : Option (List Int) → Nat × (Option Addr × Nat) → List Res
  | none, x => ecm [(x.1, sPuny)] 2
  | some l, x => [OwnR x.2 l]
set_option maxRecDepth 100000 in
theorem decode_spec (s : ByteArray) (hs : s.size ≤ 65536) (w0 : World) (m0 : List Res) :
    Ct (α := Nat × (Option Addr × Nat)) Try.prog 21 [.string s] w0 [] m0 (fun _ => True) (decV (decP s)) (decM (decP s)) := by
  refine Ct.of Try.func21 rfl (by kernel_rfl) rfl ?_
  (refine c_sq fun k5 h5 => c_rg <| r_as rfl rfl <| r_as rfl rfl <| r_nx h5 <| c_sq fun k7 h7 => c_rg <| r_as rfl rfl <| r_nx h7 <| c_sq fun k9 h9 => c_sq fun k11 h11 => c_rg <| r_mv rfl rfl <| r_lS Try.underlying9 rfl rfl <| r_gtF rfl rfl rfl (by omega) <| r_nx h11 <| c_cF rfl <| c_sk <| WE.then_n h9 <| c_sq fun k13 h13 => c_sq fun k15 h15 => c_rg <| r_mv rfl rfl <| r_lS Try.underlying9 rfl rfl <| r_mv rfl rfl <| r_nx h15 <| c_bl ?_; rotate_left)
  refine WC.loop (α := Nat) (fun i => [(0, .string s), (4, .func (.func 37) #[] #[]), (21, .int .i64 s.size), (22, .int .i64 i)]) (fun _ => []) (fun i => i ≤ s.size ∧ ∀ j, j < i → (s.data.toList.getD j 0).toNat < 128) (fun i => s.size - i) 0 ⟨by omega, by omega⟩ ⟨rfl, rfl, rfl, rfl, trivial⟩ Mem.keep ?_
  rintro i ⟨hi, hb⟩
  by_cases hlt : i < s.size
  · have h256 := (s.data.toList.getD i 0).toNat_lt
    (refine c_sq fun k22 h22 => c_rg <| r_ltT rfl rfl rfl (by omega) <| r_nx h22 <| c_sq fun k24 h24 => c_cT rfl <| c_sk <| WE.then_n h24 <| c_sq fun k26 h26 => c_bl <| c_sq fun k28 h28 => c_rg <| r_mv rfl rfl <| r_as rfl rfl <| r_nx h28 <| c_sq fun k30 h30 => c_rg <| r_mv rfl rfl <| r_mv rfl rfl ?_; rotate_left)
    refine r_iS (v := s.data.toList.getD i 0) Try.underlying9 rfl rfl rfl (by omega) (byte_at s hlt) ?_
    by_cases hc : (s.data.toList.getD i 0).toNat < 128
    · (refine r_geF rfl rfl rfl (by omega) <| r_nx h30 <| c_cF rfl <| c_sk <| WE.blk_n <| WE.then_n h26 <| c_rg <| r_ad rfl rfl rfl (wadd64 (by omega)) <| r_mv rfl rfl <| r_nl ?_; rotate_left)
      exact WE.back (i + 1) ⟨by omega, fun j hj => by
        rcases Nat.lt_succ_iff_lt_or_eq.1 hj with h | h
        · exact hb j h
        · rw [h]; exact hc⟩ (by omega) ⟨rfl, rfl, rfl, rfl, trivial⟩ Mem.keep
    · have hP : decP s = none := by
        have : s.data.toList.any (fun b => decide (128 ≤ b.toNat)) = true := by
          rw [List.any_eq_true]
          have h2 : i < s.data.toList.length := by simpa using hlt
          refine ⟨s.data.toList.getD i 0, ?_, decide_eq_true (by omega)⟩
          rw [List.getD_eq_getElem?_getD, List.getElem?_eq_getElem h2]
          exact List.getElem_mem _
        rw [decP, if_pos this]
      (refine r_geT rfl rfl rfl (by omega) <| r_nx h30 <| c_cT rfl <| c_sq fun k34 h34 => c_rg <| r_mv rfl rfl ?_; rotate_left)
      refine WX.call (m1 := []) (m2 := []) rfl rfl rfl (noneD_spec _ _) rfl rfl (fun b _ => ?_)
      (refine r_ex rfl rfl rfl <| r_ex rfl rfl rfl <| r_as rfl rfl <| r_as rfl rfl <| r_nx h34 <| c_rt <| WE.blk_r <| WE.then_r <| WE.then_r <| WE.blk_r <| WE.then_r ?_; rotate_left)
      exact WE.ret2 (b, none, 0) rfl rfl rfl rfl (by rw [hP]; rfl) trivial (by rw [hP]; exact Mem.keep)
  · have hall : ∀ b ∈ s.data.toList, b.toNat < 128 := by
      intro b hbm
      obtain ⟨j, hj, rfl⟩ := List.mem_iff_getElem.1 hbm
      have hj' : j < s.size := by have h3 := hj; simp at h3; exact h3
      have := hb j (by omega)
      rw [List.getD_eq_getElem?_getD, List.getElem?_eq_getElem hj] at this
      exact this
    have hany : s.data.toList.any (fun b => decide (128 ≤ b.toNat)) = false := by
      rw [List.any_eq_false]
      intro b hbm
      have := hall b hbm
      simp
      omega
    have hat := lastL_bd s.data.toList 45 s.size
    have hP : decP s = (if 0 < lastL s.data.toList 45 s.size then decL (s.size + 1) (s.extract (lastL s.data.toList 45 s.size + 1).toNat s.size) (asc (s.extract 0 (lastL s.data.toList 45 s.size).toNat)) 128 0 72 else decL (s.size + 1) s [] 128 0 72) := by
      rw [decP, if_neg (by rw [hany]; decide)]
    (refine c_sq fun k25 h25 => c_rg <| r_ltF rfl rfl rfl (by omega) <| r_nx h25 <| c_sq fun k27 h27 => c_cF rfl <| c_ex <| WE.then_x <| WE.then_x <| WE.blk_x <| WE.then_n h13 <| c_sq fun k29 h29 => c_rg <| r_as rfl rfl <| r_nx h29 ?_)
    refine WC.cut (α := ByteArray × List Int × (Option Addr × Nat)) (fun x => [(0, .string x.1), (4, .func (.func 37) #[] #[]), (6, SlR x.2.2 x.2.1)]) (fun x => [OwnR x.2.2 x.2.1]) (fun x => decL (s.size + 1) x.1 x.2.1 128 0 72 = decP s ∧ x.1.size + x.2.1.length ≤ s.size) ?_ ?_
    · (refine c_sq fun k31 h31 => c_rg <| r_mv rfl rfl ?_; rotate_left)
      refine WX.pure rfl rfl (last_spec s 45 (by omega) _ _) rfl rfl ?_
      generalize lastL s.data.toList 45 s.size = la at hat hP
      by_cases h0 : 0 < la
      · rw [if_pos h0] at hP
        (refine r_as rfl rfl <| r_nx h31 <| c_sq fun k38 h38 => c_rg <| r_mv rfl rfl <| r_gtT rfl rfl rfl (by omega) <| r_nx h38 <| c_cT rfl <| c_sq fun k40 h40 => c_rg <| r_mv rfl rfl <| r_mv rfl rfl ?_; rotate_left)
        refine r_sT Try.underlying9 rfl rfl (by omega) (by omega) rfl ?_
        have hx0 : (s.extract 0 la.toNat).size = la.toNat := by rw [ByteArray.size_extract]; omega
        have hx1 : (s.extract (la + 1).toNat s.size).size = s.size - (la + 1).toNat := by rw [ByteArray.size_extract]; omega
        refine r_ru Try.underlying9 Try.underlying22 Try.underlying21 rfl (fun b hb => hall b (by
          rw [ByteArray.data_extract] at hb
          simp at hb
          exact List.mem_of_mem_take hb)) (by omega) rfl (fun p => ?_)
        (refine r_as rfl rfl <| r_nx h40 <| c_rg <| r_mv rfl rfl <| r_mv rfl rfl <| r_ad rfl rfl rfl (wadd64 (by omega)) ?_; rotate_left)
        refine r_sF Try.underlying9 rfl rfl (by omega) (by omega) rfl ?_
        (refine r_as rfl rfl <| r_nl ?_; rotate_left)
        exact WE.met (s.extract (la + 1).toNat s.size, asc (s.extract 0 la.toNat), p) ⟨hP.symm, by dsimp only; rw [asc_length]; omega⟩ ⟨rfl, rfl, rfl, trivial⟩ Mem.keep
      · rw [if_neg h0] at hP
        (refine r_as rfl rfl <| r_nx h31 <| c_sq fun k38 h38 => c_rg <| r_mv rfl rfl <| r_gtF rfl rfl rfl (by omega) <| r_nx h38 <| c_cF rfl <| c_sk ?_; rotate_left)
        exact WE.met (s, [], (none, 0)) ⟨hP.symm, by simp⟩ ⟨rfl, rfl, rfl, trivial⟩ (Mem.nilOwn _ _)
    · rintro ⟨s1, l0, p⟩ ⟨e, hz⟩
      dsimp only at e hz ⊢
      (refine c_sq fun k36 h36 => c_rg <| r_as rfl rfl <| r_as rfl rfl <| r_as rfl rfl <| r_nx h36 <| c_sq fun k38 h38 => c_bl ?_; rotate_left)
      refine WC.loop (α := Nat × ByteArray × List Int × Int × Int × Int × (Option Addr × Nat)) (fun x => [(0, .string x.2.1), (4, .func (.func 37) #[] #[]), (6, SlR x.2.2.2.2.2.2 x.2.2.1), (8, .int .i64 x.2.2.2.1), (9, .int .i64 x.2.2.2.2.1), (10, .int .i64 x.2.2.2.2.2.1)])
        (fun x => [OwnR x.2.2.2.2.2.2 x.2.2.1]) (fun x => decL x.1 x.2.1 x.2.2.1 x.2.2.2.1 x.2.2.2.2.1 x.2.2.2.2.2.1 = decP s ∧ x.2.1.size < x.1 ∧ x.2.1.size + x.2.2.1.length ≤ s.size ∧ (128 ≤ x.2.2.2.1 ∧ x.2.2.2.1 ≤ 1114111) ∧ (0 ≤ x.2.2.2.2.1 ∧ x.2.2.2.2.1 ≤ x.2.2.1.length) ∧ (0 ≤ x.2.2.2.2.2.1 ∧ x.2.2.2.2.2.1 ≤ 1000))
        (fun x => x.2.1.size) (s.size + 1, s1, l0, 128, 0, 72, p) ⟨e, by dsimp only; omega, hz, by dsimp only; omega, by dsimp only; omega, by dsimp only; omega⟩ ⟨rfl, rfl, rfl, rfl, rfl, rfl, trivial⟩ Mem.keep ?_
      clear e hz s1 l0 p
      rintro ⟨f, s2, l, n, i, bias, p⟩ ⟨e, h1, h2, h3, h4, h5⟩
      dsimp only at e h1 h2 h3 h4 h5 ⊢
      cases f with
      | zero => omega
      | succ f =>
        rw [decL] at e
        by_cases hz : s2.size = 0
        · rw [if_pos hz] at e
          (refine c_sq fun k59 h59 => c_sq fun k61 h61 => c_rg <| r_mv rfl rfl <| r_lS Try.underlying9 rfl rfl <| r_gtF rfl rfl rfl (by omega) <| r_nx h61 <| c_cF rfl <| c_ex <| WE.then_x <| WE.then_x <| WE.blk_x <| WE.then_n h38 <| c_sq fun k63 h63 => c_rg <| r_mv rfl rfl <| r_as rfl rfl <| r_as rfl rfl <| r_nx h63 <| c_rt ?_; rotate_left)
          exact WE.ret2 (0, p) rfl rfl rfl rfl (by rw [← e]; rfl) trivial (by rw [← e]; exact Mem.keep)
        · rw [if_neg hz] at e
          obtain ⟨r1, r2⟩ := readP_bd s2 bias h5
          (refine c_sq fun k61 h61 => c_sq fun k63 h63 => c_rg <| r_mv rfl rfl <| r_lS Try.underlying9 rfl rfl <| r_gtT rfl rfl rfl (by omega) <| r_nx h63 <| c_cT rfl <| c_sk <| WE.then_n h61 <| c_bl <| c_sq fun k65 h65 => c_rg <| r_mv rfl rfl <| r_mv rfl rfl ?_; rotate_left)
          refine WX.pure rfl rfl (read_spec s2 bias (by omega) h5 _ _) rfl rfl ?_
          generalize (readP s2 bias).1 = q at e r1 ⊢
          generalize (readP s2 bias).2 = mn at e r2 ⊢
          by_cases c1 : mn = 0
          · rw [if_pos (.inl c1)] at e
            (refine r_mv rfl rfl <| r_ex rfl rfl rfl <| r_ex rfl rfl rfl <| r_as rfl rfl <| r_as rfl rfl <| r_nx h65 <| c_sq fun k75 h75 => c_sq fun k77 h77 => c_rg <| r_mv rfl rfl <| r_eqT rfl rfl rfl (by omega) <| r_mv rfl rfl <| r_sk rfl rfl <| r_sk rfl rfl <| r_sk rfl rfl <| r_sk rfl rfl <| r_pT rfl rfl rfl <| r_nx h77 <| c_cT rfl <| c_sq fun k79 h79 => c_rg <| r_mv rfl rfl ?_; rotate_left)
            refine WX.call (m1 := []) (m2 := [OwnR p l]) rfl rfl rfl (noneD_spec _ _) rfl rfl (fun b _ => ?_)
            (refine r_ex rfl rfl rfl <| r_ex rfl rfl rfl <| r_as rfl rfl <| r_as rfl rfl <| r_nx h79 <| c_rt <| WE.then_r <| WE.blk_r <| WE.then_r <| WE.blk_r <| WE.then_r ?_; rotate_left)
            exact WE.ret2 (b, p) rfl rfl rfl rfl (by rw [← e]; rfl) trivial (by rw [← e]; exact Mem.pick [0] (by decide) rfl)
          · by_cases c2 : 1099511627776 < i + q
            · rw [if_pos (.inr c2)] at e
              (refine r_mv rfl rfl <| r_ex rfl rfl rfl <| r_ex rfl rfl rfl <| r_as rfl rfl <| r_as rfl rfl <| r_nx h65 <| c_sq fun k76 h76 => c_sq fun k78 h78 => c_rg <| r_mv rfl rfl <| r_eqF rfl rfl rfl (by omega) <| r_mv rfl rfl <| r_mv rfl rfl <| r_mv rfl rfl <| r_ad rfl rfl rfl (wadd64 (by omega)) <| r_gtT rfl rfl rfl (by omega) <| r_pF rfl rfl rfl <| r_nx h78 <| c_cT rfl <| c_sq fun k80 h80 => c_rg <| r_mv rfl rfl ?_; rotate_left)
              refine WX.call (m1 := []) (m2 := [OwnR p l]) rfl rfl rfl (noneD_spec _ _) rfl rfl (fun b _ => ?_)
              (refine r_ex rfl rfl rfl <| r_ex rfl rfl rfl <| r_as rfl rfl <| r_as rfl rfl <| r_nx h80 <| c_rt <| WE.then_r <| WE.blk_r <| WE.then_r <| WE.blk_r <| WE.then_r ?_; rotate_left)
              exact WE.ret2 (b, p) rfl rfl rfl rfl (by rw [← e]; rfl) trivial (by rw [← e]; exact Mem.pick [0] (by decide) rfl)
            · rw [if_neg (by omega)] at e
              have d0 : 0 ≤ (i + q) / ((l.length : Int) + 1) := Int.ediv_nonneg (by omega) (by omega)
              have d1 : (i + q) / ((l.length : Int) + 1) ≤ i + q := Int.ediv_le_self _ (by omega)
              have d2 : 0 ≤ (i + q) % ((l.length : Int) + 1) := Int.emod_nonneg _ (by omega)
              have d3 : (i + q) % ((l.length : Int) + 1) < (l.length : Int) + 1 := Int.emod_lt_of_pos _ (by omega)
              have hA := adaptP_bd (delta := q) (many := (l.length : Int) + 1) (by omega) (decide (i = 0))
              have hx : (s2.extract mn.toNat s2.size).size = s2.size - mn.toNat := by rw [ByteArray.size_extract]; omega
              (refine r_mv rfl rfl <| r_ex rfl rfl rfl <| r_ex rfl rfl rfl <| r_as rfl rfl <| r_as rfl rfl <| r_nx h65 <| c_sq fun k82 h82 => c_sq fun k84 h84 => c_rg <| r_mv rfl rfl <| r_eqF rfl rfl rfl (by omega) <| r_mv rfl rfl <| r_mv rfl rfl <| r_mv rfl rfl <| r_ad rfl rfl rfl (wadd64 (by omega)) <| r_gtF rfl rfl rfl (by omega) <| r_pF rfl rfl rfl <| r_nx h84 <| c_cF rfl <| c_sk <| WE.then_n h82 <| c_sq fun k86 h86 => c_rg <| r_mv rfl rfl <| r_mv rfl rfl ?_; rotate_left)
              refine r_sF Try.underlying9 rfl rfl (by omega) (by omega) rfl ?_
              have ha : ∀ m1, PureC Try.prog 41 [.int .i64 q, .int .i64 ((l.length : Int) + 1), .bool (decide (i = 0))] w0 m1 (.int .i64 (adaptP q ((l.length : Int) + 1) (decide (i = 0)))) := fun m1 => adapt_spec q ((l.length : Int) + 1) (decide (i = 0)) (by omega) w0 m1
              generalize adaptP q ((l.length : Int) + 1) (decide (i = 0)) = bias2 at e hA ha
              by_cases i0 : i = 0
              · rw [decide_eq_true i0] at ha
                (refine r_as rfl rfl <| r_nx h86 <| c_sq fun k94 h94 => c_rg <| r_mv rfl rfl <| r_mv rfl rfl <| r_ls Try.underlying22 rfl rfl <| r_ad rfl rfl rfl (wadd64 (by omega)) <| r_mv rfl rfl <| r_eqT rfl rfl rfl (by omega) ?_; rotate_left)
                refine WX.pure rfl rfl (ha _) rfl rfl ?_
                (refine r_as rfl rfl <| r_nx h94 <| c_sq fun k96 h96 => c_rg <| r_mv rfl rfl <| r_mv rfl rfl <| r_ad rfl rfl rfl (wadd64 (by omega)) <| r_as rfl rfl <| r_nx h96 <| c_sq fun k98 h98 => c_rg <| r_mv rfl rfl <| r_mv rfl rfl <| r_mv rfl rfl <| r_ls Try.underlying22 rfl rfl <| r_ad rfl rfl rfl (wadd64 (by omega)) <| r_qu rfl rfl rfl (by omega) (wquo64 (by omega)) <| r_ad rfl rfl rfl (wadd64 (by omega)) <| r_as rfl rfl <| r_nx h98 <| c_sq fun k100 h100 => c_rg <| r_mv rfl rfl <| r_mv rfl rfl <| r_ls Try.underlying22 rfl rfl <| r_ad rfl rfl rfl (wadd64 (by omega)) <| r_re rfl rfl rfl (by omega) (wrem (by omega)) <| r_as rfl rfl <| r_nx h100 <| c_sq fun k102 h102 => c_sq fun k104 h104 => c_rg <| r_mv rfl rfl ?_; rotate_left)
                obtain ⟨k, hk⟩ := Int.eq_ofNat_of_zero_le d2
                rw [hk, Int.toNat_natCast] at e
                rw [hk]
                generalize (i + q) / ((l.length : Int) + 1) = dv at e d0 d1 ⊢
                by_cases v1 : 1114111 < n + dv
                · rw [if_pos (.inl v1)] at e
                  (refine r_gtT rfl rfl rfl (by omega) <| r_mv rfl rfl <| r_sk rfl rfl <| r_sk rfl rfl <| r_sk rfl rfl <| r_sk rfl rfl <| r_pT rfl rfl rfl <| r_nx h104 <| c_cT rfl <| c_sq fun k116 h116 => c_rg <| r_mv rfl rfl ?_; rotate_left)
                  refine WX.call (m1 := []) (m2 := [OwnR p l]) rfl rfl rfl (noneD_spec _ _) rfl rfl (fun b _ => ?_)
                  (refine r_ex rfl rfl rfl <| r_ex rfl rfl rfl <| r_as rfl rfl <| r_as rfl rfl <| r_nx h116 <| c_rt <| WE.then_r <| WE.blk_r <| WE.then_r <| WE.blk_r <| WE.then_r ?_; rotate_left)
                  exact WE.ret2 (b, p) rfl rfl rfl rfl (by rw [← e]; rfl) trivial (by rw [← e]; exact Mem.pick [0] (by decide) rfl)
                · (refine r_gtF rfl rfl rfl (by omega) <| r_mv rfl rfl <| r_mv rfl rfl <| r_cv rfl (cv_int (k' := .i32) rfl Try.underlying21 (w32 (by omega))) rfl ?_; rotate_left)
                  by_cases v2 : ScP (n + dv)
                  · rw [if_neg (fun h => h.elim v1 (fun h => h v2))] at e
                    have hv2 : ∀ m1, PureC Try.prog 18 [.int .i32 (n + dv)] w0 m1 (.bool true) := fun m1 => by have := validRune_spec (n + dv) w0 m1; rwa [decide_eq_true v2] at this
                    refine WX.pure rfl rfl (hv2 _) rfl rfl ?_
                    (refine r_no rfl rfl rfl <| r_pF rfl rfl rfl <| r_nx h104 <| c_cF rfl <| c_sk <| WE.then_n h102 <| c_sq fun k118 h118 => c_rg <| r_mv rfl rfl <| r_mv rfl rfl <| r_mv rfl rfl <| r_cv rfl (cv_int (k' := .i32) rfl Try.underlying21 (w32 (by omega))) rfl <| r_bo Try.underlying22 rfl (fun _ => by kernel_rfl) rfl rfl rfl (fun _ => ?_); rotate_left)
                    (rotate_left)
                    rename_i vb
                    refine WX.mem (m' := [OwnR p l, .own (some ⟨vb, 0, none⟩) 1 1 [.int .i32 (n + dv)] 21 1]) (Mem.pick [1, 0] (by decide) rfl) ?_
                    refine WX.call (m1 := [OwnR p l, .own (some ⟨vb, 0, none⟩) 1 1 [.int .i32 (n + dv)] 21 1]) (m2 := []) rfl rfl rfl (insert_spec p l k (n + dv) vb (by omega) (by omega) _ _) rfl rfl (fun p2 _ => ?_)
                    have hl2 := insL_length l k (n + dv) (by omega)
                    (refine r_as rfl rfl <| r_nx h118 <| c_rg <| r_mv rfl rfl <| r_ad rfl rfl rfl (wadd64 (by omega)) <| r_as rfl rfl <| r_nl <| WE.blk_n ?_; rotate_left)
                    exact WE.back (f, s2.extract mn.toNat s2.size, insL l k (n + dv), n + dv, (k : Int) + 1, bias2, p2) ⟨e, by dsimp only; omega, by dsimp only; omega, by dsimp only; omega, by dsimp only; omega, hA⟩ (by dsimp only; omega) ⟨rfl, rfl, rfl, rfl, rfl, rfl, trivial⟩ Mem.keep
                  · rw [if_pos (.inr v2)] at e
                    have hv2 : ∀ m1, PureC Try.prog 18 [.int .i32 (n + dv)] w0 m1 (.bool false) := fun m1 => by have := validRune_spec (n + dv) w0 m1; rwa [decide_eq_false v2] at this
                    refine WX.pure rfl rfl (hv2 _) rfl rfl ?_
                    (refine r_no rfl rfl rfl <| r_pF rfl rfl rfl <| r_nx h104 <| c_cT rfl <| c_sq fun k118 h118 => c_rg <| r_mv rfl rfl ?_; rotate_left)
                    refine WX.call (m1 := []) (m2 := [OwnR p l]) rfl rfl rfl (noneD_spec _ _) rfl rfl (fun b _ => ?_)
                    (refine r_ex rfl rfl rfl <| r_ex rfl rfl rfl <| r_as rfl rfl <| r_as rfl rfl <| r_nx h118 <| c_rt <| WE.then_r <| WE.blk_r <| WE.then_r <| WE.blk_r <| WE.then_r ?_; rotate_left)
                    exact WE.ret2 (b, p) rfl rfl rfl rfl (by rw [← e]; rfl) trivial (by rw [← e]; exact Mem.pick [0] (by decide) rfl)
              · rw [decide_eq_false i0] at ha
                (refine r_as rfl rfl <| r_nx h86 <| c_sq fun k94 h94 => c_rg <| r_mv rfl rfl <| r_mv rfl rfl <| r_ls Try.underlying22 rfl rfl <| r_ad rfl rfl rfl (wadd64 (by omega)) <| r_mv rfl rfl <| r_eqF rfl rfl rfl (by omega) ?_; rotate_left)
                refine WX.pure rfl rfl (ha _) rfl rfl ?_
                (refine r_as rfl rfl <| r_nx h94 <| c_sq fun k96 h96 => c_rg <| r_mv rfl rfl <| r_mv rfl rfl <| r_ad rfl rfl rfl (wadd64 (by omega)) <| r_as rfl rfl <| r_nx h96 <| c_sq fun k98 h98 => c_rg <| r_mv rfl rfl <| r_mv rfl rfl <| r_mv rfl rfl <| r_ls Try.underlying22 rfl rfl <| r_ad rfl rfl rfl (wadd64 (by omega)) <| r_qu rfl rfl rfl (by omega) (wquo64 (by omega)) <| r_ad rfl rfl rfl (wadd64 (by omega)) <| r_as rfl rfl <| r_nx h98 <| c_sq fun k100 h100 => c_rg <| r_mv rfl rfl <| r_mv rfl rfl <| r_ls Try.underlying22 rfl rfl <| r_ad rfl rfl rfl (wadd64 (by omega)) <| r_re rfl rfl rfl (by omega) (wrem (by omega)) <| r_as rfl rfl <| r_nx h100 <| c_sq fun k102 h102 => c_sq fun k104 h104 => c_rg <| r_mv rfl rfl ?_; rotate_left)
                obtain ⟨k, hk⟩ := Int.eq_ofNat_of_zero_le d2
                rw [hk, Int.toNat_natCast] at e
                rw [hk]
                generalize (i + q) / ((l.length : Int) + 1) = dv at e d0 d1 ⊢
                by_cases v1 : 1114111 < n + dv
                · rw [if_pos (.inl v1)] at e
                  (refine r_gtT rfl rfl rfl (by omega) <| r_mv rfl rfl <| r_sk rfl rfl <| r_sk rfl rfl <| r_sk rfl rfl <| r_sk rfl rfl <| r_pT rfl rfl rfl <| r_nx h104 <| c_cT rfl <| c_sq fun k116 h116 => c_rg <| r_mv rfl rfl ?_; rotate_left)
                  refine WX.call (m1 := []) (m2 := [OwnR p l]) rfl rfl rfl (noneD_spec _ _) rfl rfl (fun b _ => ?_)
                  (refine r_ex rfl rfl rfl <| r_ex rfl rfl rfl <| r_as rfl rfl <| r_as rfl rfl <| r_nx h116 <| c_rt <| WE.then_r <| WE.blk_r <| WE.then_r <| WE.blk_r <| WE.then_r ?_; rotate_left)
                  exact WE.ret2 (b, p) rfl rfl rfl rfl (by rw [← e]; rfl) trivial (by rw [← e]; exact Mem.pick [0] (by decide) rfl)
                · (refine r_gtF rfl rfl rfl (by omega) <| r_mv rfl rfl <| r_mv rfl rfl <| r_cv rfl (cv_int (k' := .i32) rfl Try.underlying21 (w32 (by omega))) rfl ?_; rotate_left)
                  by_cases v2 : ScP (n + dv)
                  · rw [if_neg (fun h => h.elim v1 (fun h => h v2))] at e
                    have hv2 : ∀ m1, PureC Try.prog 18 [.int .i32 (n + dv)] w0 m1 (.bool true) := fun m1 => by have := validRune_spec (n + dv) w0 m1; rwa [decide_eq_true v2] at this
                    refine WX.pure rfl rfl (hv2 _) rfl rfl ?_
                    (refine r_no rfl rfl rfl <| r_pF rfl rfl rfl <| r_nx h104 <| c_cF rfl <| c_sk <| WE.then_n h102 <| c_sq fun k118 h118 => c_rg <| r_mv rfl rfl <| r_mv rfl rfl <| r_mv rfl rfl <| r_cv rfl (cv_int (k' := .i32) rfl Try.underlying21 (w32 (by omega))) rfl <| r_bo Try.underlying22 rfl (fun _ => by kernel_rfl) rfl rfl rfl (fun _ => ?_); rotate_left)
                    (rotate_left)
                    rename_i vb
                    refine WX.mem (m' := [OwnR p l, .own (some ⟨vb, 0, none⟩) 1 1 [.int .i32 (n + dv)] 21 1]) (Mem.pick [1, 0] (by decide) rfl) ?_
                    refine WX.call (m1 := [OwnR p l, .own (some ⟨vb, 0, none⟩) 1 1 [.int .i32 (n + dv)] 21 1]) (m2 := []) rfl rfl rfl (insert_spec p l k (n + dv) vb (by omega) (by omega) _ _) rfl rfl (fun p2 _ => ?_)
                    have hl2 := insL_length l k (n + dv) (by omega)
                    (refine r_as rfl rfl <| r_nx h118 <| c_rg <| r_mv rfl rfl <| r_ad rfl rfl rfl (wadd64 (by omega)) <| r_as rfl rfl <| r_nl <| WE.blk_n ?_; rotate_left)
                    exact WE.back (f, s2.extract mn.toNat s2.size, insL l k (n + dv), n + dv, (k : Int) + 1, bias2, p2) ⟨e, by dsimp only; omega, by dsimp only; omega, by dsimp only; omega, by dsimp only; omega, hA⟩ (by dsimp only; omega) ⟨rfl, rfl, rfl, rfl, rfl, rfl, trivial⟩ Mem.keep
                  · rw [if_pos (.inr v2)] at e
                    have hv2 : ∀ m1, PureC Try.prog 18 [.int .i32 (n + dv)] w0 m1 (.bool false) := fun m1 => by have := validRune_spec (n + dv) w0 m1; rwa [decide_eq_false v2] at this
                    refine WX.pure rfl rfl (hv2 _) rfl rfl ?_
                    (refine r_no rfl rfl rfl <| r_pF rfl rfl rfl <| r_nx h104 <| c_cT rfl <| c_sq fun k118 h118 => c_rg <| r_mv rfl rfl ?_; rotate_left)
                    refine WX.call (m1 := []) (m2 := [OwnR p l]) rfl rfl rfl (noneD_spec _ _) rfl rfl (fun b _ => ?_)
                    (refine r_ex rfl rfl rfl <| r_ex rfl rfl rfl <| r_as rfl rfl <| r_as rfl rfl <| r_nx h118 <| c_rt <| WE.then_r <| WE.blk_r <| WE.then_r <| WE.blk_r <| WE.then_r ?_; rotate_left)
                    exact WE.ret2 (b, p) rfl rfl rfl rfl (by rw [← e]; rfl) trivial (by rw [← e]; exact Mem.pick [0] (by decide) rfl)
end Go.Proofs.Ythnabbidlmihbaa
