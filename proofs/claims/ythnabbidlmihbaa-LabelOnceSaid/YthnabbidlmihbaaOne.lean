/- label.One: the walk. -/
import Derived.Test.YthnabbidlmihbaaMay
import Derived.Test.YthnabbidlmihbaaDecode
import Derived.Test.YthnabbidlmihbaaEncode
namespace Go.Proofs.Ythnabbidlmihbaa
open Go.RowKit Go.Gp

theorem insL_mem {l : List Int} {i : Nat} {c x : Int} (h : x ∈ insL l i c) : x ∈ l ∨ x = c := by
  unfold insL at h
  rcases List.mem_append.1 h with h | h
  · exact .inl (List.mem_of_mem_take h)
  · rcases List.mem_cons.1 h with h | h
    · exact .inr h
    · exact .inl (List.mem_of_mem_drop h)
theorem decL_props : ∀ (f : Nat) (s : ByteArray) (l : List Int) (n i bias : Int) (d : List Int) (N : Nat), decL f s l n i bias = some d → (∀ x ∈ l, 0 ≤ x ∧ x ≤ 1114111) → s.size + l.length ≤ N → (0 ≤ i ∧ i ≤ l.length) → (0 ≤ bias ∧ bias ≤ 1000) → (∀ x ∈ d, 0 ≤ x ∧ x ≤ 1114111) ∧ d.length ≤ N
  | 0, s, l, n, i, bias, d, N, h, _, _, _, _ => by cases h
  | f + 1, s, l, n, i, bias, d, N, h, hl, hN, hi, hb => by
    rw [decL] at h
    split at h
    · injection h with h
      subst h
      exact ⟨hl, by omega⟩
    · split at h
      · cases h
      · rename_i g1 g2
        split at h
        · cases h
        · rename_i g3
          obtain ⟨r1, r2⟩ := readP_bd s bias hb
          have d2 : 0 ≤ (i + (readP s bias).1) % ((l.length : Int) + 1) := Int.emod_nonneg _ (by omega)
          have d3 : (i + (readP s bias).1) % ((l.length : Int) + 1) < (l.length : Int) + 1 := Int.emod_lt_of_pos _ (by omega)
          have hsc : ScP (n + (i + (readP s bias).1) / ((l.length : Int) + 1)) := Classical.byContradiction fun h => g3 (.inr h)
          have hl2 := insL_length l ((i + (readP s bias).1) % ((l.length : Int) + 1)).toNat (n + (i + (readP s bias).1) / ((l.length : Int) + 1)) (by omega)
          refine decL_props f _ _ _ _ _ d N h (fun x hx => ?_) ?_ ?_ (adaptP_bd (by omega) _)
          · rcases insL_mem hx with hx | hx
            · exact hl x hx
            · rw [hx]; exact hsc.1
          · rw [ByteArray.size_extract, hl2]; omega
          · rw [hl2]; omega
theorem decP_props {s : ByteArray} {d : List Int} (h : decP s = some d) : (∀ x ∈ d, 0 ≤ x ∧ x ≤ 1114111) ∧ d.length ≤ s.size := by
  have hat := lastL_bd s.data.toList 45 s.size
  unfold decP at h
  split at h
  · cases h
  · split at h
    · refine decL_props _ _ _ _ _ _ d s.size h (fun x hx => ?_) ?_ (by omega) (by omega)
      · obtain ⟨b, _, rfl⟩ := List.mem_map.1 hx
        have := b.toNat_lt
        omega
      · rw [asc_length, ByteArray.size_extract, ByteArray.size_extract]; omega
    · exact decL_props _ _ _ _ _ _ d s.size h (by simp) (by simp) (by simp) (by omega)
def aceB : ByteArray := ⟨#[120, 110, 45, 45]⟩
def sLabel : ByteArray := ⟨#[108, 97, 98, 101, 108]⟩
/-- A name's part in letters below 128, if it may be. -/
def oneP (l : List Int) : Option ByteArray :=
  if l.any (fun c => !decide (ScP c)) then none
  else if preB (runesBytes l) aceB then
    (if l.any (fun c => decide (128 ≤ c)) then none else match decP ((runesBytes l).extract 4 (runesBytes l).size) with
      | none => none
      | some d => if mayP d then some (runesBytes l) else none)
  else if l.any (fun c => decide (128 ≤ c)) then (if MarkP l then none else some (aceB ++ strOf (encP l)))
  else some (runesBytes l)
def oneV : Option ByteArray → Nat → Value
  | none, b => .tuple #[.string ⟨#[]⟩, ecv [(b, sLabel)] 2]
  | some s, _ => .tuple #[.string s, .nilIface]
def oneM : Option ByteArray → Nat → List Res
  | none, b => ecm [(b, sLabel)] 2
  | some _, _ => []
theorem encIn_len (n : Int) (basic : Nat) : ∀ (l : List Int) (s : ES), (encIn n basic l s).2.2.2.length ≤ s.2.2.2.length + 20 * l.length
  | [], s => by simp [encIn]
  | c :: l, s => by
    have h1 := encIn_len n basic l (encStep n basic s c)
    have h2 : (encStep n basic s c).2.2.2.length ≤ s.2.2.2.length + 20 := by
      unfold encStep
      dsimp only
      split
      · have := numL_len s.2.1 20 (if c < n then s.1 + 1 else s.1) 36
        simp only [List.length_append, numP]
        omega
      · dsimp only; omega
    have h3 : encIn n basic (c :: l) s = encIn n basic l (encStep n basic s c) := rfl
    rw [h3, List.length_cons]
    omega
theorem encOut_len (l : List Int) (basic : Nat) : ∀ (f : Nat) (n : Int) (s : ES), (encOut l basic f n s).length ≤ s.2.2.2.length + 20 * l.length * f
  | 0, n, s => by simp [encOut]
  | f + 1, n, s => by
    rw [encOut]
    split
    · have h1 := encOut_len l basic f (minGe n l + 1) ((encRound l basic n s).1 + 1, (encRound l basic n s).2)
      have h2 := encIn_len (minGe n l) basic l (s.1 + (minGe n l - n) * (s.2.2.1 + 1), s.2.1, s.2.2.1, s.2.2.2)
      have h3 : (encRound l basic n s).2.2.2.length ≤ s.2.2.2.length + 20 * l.length := h2
      rw [Nat.mul_add, Nat.mul_one]
      dsimp only at h1
      omega
    · rw [Nat.mul_add]; omega
theorem encP_len (l : List Int) : (encP l).length ≤ l.length + 1 + 20 * l.length * (l.length + 1) := by
  have h1 := encOut_len l (basics l).length (l.length + 1) 128 (0, 72, (basics l).length, if 0 < (basics l).length then basics l ++ [45] else [])
  have h2 : (basics l).length ≤ l.length := by rw [basics_length]; exact List.countP_le_length
  have h3 : (if 0 < (basics l).length then basics l ++ [45] else ([] : List UInt8)).length ≤ l.length + 1 := by split <;> simp <;> omega
  unfold encP
  dsimp only at h1
  omega
/-- string(l). -/
theorem conv_runes {A : Option Addr} {c : Nat} {l : List Int} {w0 : World} {m : List Res} (hA : Rd w0 m A (runes l)) (w : World) (hw : Mem w0 m w) : (convert 22 9 (.slice A l.length c)).run Try.prog w = .ok (.string (runesBytes l)) w := by
  unfold Rd at hA
  cases A with
  | none =>
    have : l = [] := by
      cases l with
      | nil => rfl
      | cons x r => obtain ⟨a, h, _⟩ := hA w hw 0 (.int .i32 x) rfl; cases h
    subst this
    exact run_convert_runes_nil w _ _ 21 _ _ Try.underlying22 Try.underlying21 Try.underlying9
  | some a =>
    have := run_convert_runes (P := Try.prog) w 22 9 21 a l.length c l (Nat.le_refl _) Try.underlying22 Try.underlying21 Try.underlying9 (fun j hj => by
      obtain ⟨a', h1, h2⟩ := hA w hw j (.int .i32 (l.getD j 0)) (by simp [hj])
      injection h1 with h1
      subst h1
      exact h2)
    rw [List.take_length] at this
    exact this
set_option maxRecDepth 100000 in
theorem one_spec (A : Option Addr) (c : Nat) (l : List Int) (hn : l.length ≤ 16000) (w0 : World) (m0 : List Res) (hA : Rd w0 m0 A (runes l)) :
    Ct (α := Nat) Try.prog 7 [.slice A l.length c] w0 [] m0 (fun _ => True) (oneV (oneP l)) (oneM (oneP l)) := by
  have hsz := runesBytes_size_le l
  have a1 : ∀ mm, Rd w0 mm A (runes l) → PureC Try.prog 16 [.slice A l.length c, .func (.func 17) #[] #[]] w0 mm (.bool (l.any (fun c => !decide (ScP c)))) := fun mm h => containsFunc_spec A c l 17 [] (fun c => !decide (ScP c)) (by omega) w0 mm h (fun c m => notValid_spec c w0 (m ++ mm))
  have a2 : ∀ mm, Rd w0 mm A (runes l) → PureC Try.prog 16 [.slice A l.length c, .func (.func 19) #[] #[]] w0 mm (.bool (l.any (fun c => decide (128 ≤ c)))) := fun mm h => containsFunc_spec A c l 19 [] (fun c => decide (128 ≤ c)) (by omega) w0 mm h (fun c m => above_spec c w0 (m ++ mm))
  have a3 : ∀ mm, PureC Try.prog 20 [.string (runesBytes l), .string aceB] w0 mm (.bool (preB (runesBytes l) aceB)) := fun mm => hasPrefix_spec _ _ w0 mm
  have a4 : ∀ mm, Rd w0 mm A (runes l) → PureC Try.prog 23 [.slice A l.length c] w0 mm (.bool (decide (MarkP l))) := fun mm h => marked_spec A c l w0 mm h
  have h4 : preB (runesBytes l) aceB = true → 4 ≤ (runesBytes l).size := fun h => by
    unfold preB at h
    rw [Bool.and_eq_true, decide_eq_true_eq] at h
    exact h.1
  have hSc : l.any (fun c => !decide (ScP c)) = false → Sc l := fun h x hx => by
    have h2 := List.any_eq_false.1 h x hx
    exact Classical.byContradiction fun hn => h2 (by rw [decide_eq_false hn]; rfl)
  have hv : oneP l = (if l.any (fun c => !decide (ScP c)) = true then none
      else if preB (runesBytes l) aceB = true then (if l.any (fun c => decide (128 ≤ c)) = true then none else match decP ((runesBytes l).extract 4 (runesBytes l).size) with | none => none | some d => if mayP d = true then some (runesBytes l) else none)
      else if l.any (fun c => decide (128 ≤ c)) = true then (if decide (MarkP l) = true then none else some (aceB ++ strOf (encP l))) else some (runesBytes l)) := by
    unfold oneP
    simp only [decide_eq_true_eq]
  generalize l.any (fun c => !decide (ScP c)) = b1 at a1 hSc hv
  generalize l.any (fun c => decide (128 ≤ c)) = b3 at a2 hv
  generalize preB (runesBytes l) aceB = b2 at a3 h4 hv
  generalize decide (MarkP l) = b5 at a4 hv
  refine Ct.of Try.func7 rfl (by kernel_rfl) rfl ?_
  (refine c_sq fun k25 h25 => c_rg <| r_as rfl rfl <| r_as rfl rfl <| r_nx h25 <| c_sq fun k27 h27 => c_sq fun k29 h29 => c_rg <| r_mv rfl rfl ?_; rotate_left)
  refine WX.pure rfl rfl (a1 _ (hA.app _)) rfl rfl ?_
  cases b1
  · (refine r_nx h29 <| c_cF rfl <| c_sk <| WE.then_n h27 <| c_sq fun k34 h34 => c_rg <| r_mv rfl rfl ?_; rotate_left)
    refine r_cm rfl (fun w hw => conv_runes (hA.app _) w hw) rfl ?_
    (refine r_as rfl rfl <| r_as rfl rfl <| r_nx h34 <| c_sq fun k36 h36 => c_rg <| r_mv rfl rfl ?_; rotate_left)
    refine WX.pure rfl rfl (a2 _ (hA.app _)) rfl rfl ?_
    (refine r_as rfl rfl <| r_nx h36 <| c_sq fun k38 h38 => c_bl <| c_sq fun k40 h40 => c_bl <| c_sq fun k42 h42 => c_bl <| c_sq fun k44 h44 => c_bl <| c_sq fun k46 h46 => c_bl <| c_sq fun k48 h48 => c_sq fun k50 h50 => c_sq fun k52 h52 => c_rg <| r_mv rfl rfl ?_; rotate_left)
    refine WX.pure rfl rfl (a3 _) rfl rfl ?_
    cases b2
    · cases b3
      · (refine r_as rfl rfl <| r_nx h52 <| c_cF rfl <| c_sk <| WE.then_n h50 <| c_sq fun k58 h58 => c_sq fun k60 h60 => c_rg <| r_mv rfl rfl <| r_no rfl rfl rfl <| r_as rfl rfl <| r_nx h60 <| c_cT rfl <| c_ex <| WE.then_x <| WE.then_x <| WE.blk_y rfl <| WE.then_x <| WE.blk_x <| WE.then_n h44 <| c_sq fun k62 h62 => c_rg <| r_mv rfl rfl <| r_as rfl rfl <| r_nx h62 <| c_ex <| WE.blk_y rfl <| WE.then_x <| WE.blk_y rfl <| WE.then_x <| WE.blk_x <| WE.then_n h38 <| c_sq fun k64 h64 => c_rg <| r_mv rfl rfl <| r_as rfl rfl <| r_as rfl rfl <| r_nx h64 <| c_rt ?_; rotate_left)
        exact WE.ret2 0 rfl rfl rfl rfl (by rw [hv]; rfl) trivial (by rw [hv]; exact Mem.drop)
      · (refine r_as rfl rfl <| r_nx h52 <| c_cF rfl <| c_sk <| WE.then_n h50 <| c_sq fun k58 h58 => c_sq fun k60 h60 => c_rg <| r_mv rfl rfl <| r_no rfl rfl rfl <| r_as rfl rfl <| r_nx h60 <| c_cF rfl <| c_sk <| WE.then_n h58 <| c_sq fun k62 h62 => c_rg <| r_mv rfl rfl ?_; rotate_left)
        refine WX.pure rfl rfl (a4 _ (hA.app _)) rfl rfl ?_
        cases b5
        · (refine r_as rfl rfl <| r_nx h62 <| c_cF rfl <| c_sk <| WE.then_n h48 <| c_ex <| WE.blk_y rfl <| WE.then_x <| WE.blk_y rfl <| WE.then_x <| WE.blk_y rfl <| WE.then_x <| WE.blk_x <| WE.then_n h40 <| c_sq fun k66 h66 => c_sq fun k68 h68 => c_rg <| r_mv rfl rfl ?_; rotate_left)
          refine WX.pure rfl rfl (encode_spec A c l (by omega) (hSc rfl) _ _ (hA.app _)) rfl rfl ?_
          (refine r_mv rfl rfl <| r_ex rfl rfl rfl <| r_ex rfl rfl rfl <| r_as rfl rfl <| r_as rfl rfl <| r_nx h68 <| c_sq fun k70 h70 => c_sq fun k72 h72 => c_rg <| r_mv rfl rfl <| r_bk (.bool false) rfl rfl (fun _ => by kernel_rfl) rfl <| r_nx h72 <| c_cF rfl <| c_sk <| WE.then_n h70 <| c_rg <| r_mv rfl rfl ?_; rotate_left)
          have hel := encP_len l
          have hms : 20 * l.length * (l.length + 1) ≤ 20 * 16000 * 16001 := Nat.mul_le_mul (by omega) (by omega)
          refine r_bi (s := .string (aceB ++ strOf (encP l))) rfl rfl (fun _ _ => rfl) (fun w _ => by
            have := run_string_add_sum (P := Try.prog) w aceB (strOf (encP l)) (by
              have e1 : aceB.size = 4 := rfl
              have e2 : (strOf (encP l)).size = (encP l).length := by simp [strOf, ByteArray.size]
              omega)
            simp only [binOp]
            exact this) rfl ?_
          (refine r_as rfl rfl <| r_nx h66 <| c_ex <| WE.blk_x <| WE.then_n h38 <| c_sq fun k76 h76 => c_rg <| r_mv rfl rfl <| r_as rfl rfl <| r_as rfl rfl <| r_nx h76 <| c_rt ?_; rotate_left)
          exact WE.ret2 0 rfl rfl rfl rfl (by rw [hv]; rfl) trivial (by rw [hv]; exact Mem.drop)
        · (refine r_as rfl rfl <| r_nx h62 <| c_cT rfl <| c_ex <| WE.then_x <| WE.blk_y rfl <| WE.then_x <| WE.blk_y rfl <| WE.then_x <| WE.blk_x <| WE.then_n h42 <| c_sq fun k66 h66 => c_sq fun k68 h68 => c_rg <| r_mi rfl (fun _ => by kernel_rfl) rfl ?_; rotate_left)
          refine WX.call (m1 := []) (m2 := _) rfl rfl rfl (wrap_spec sLabel [] 2 _ _) rfl rfl (fun b _ => ?_)
          (refine r_as rfl rfl <| r_as rfl rfl <| r_nx h68 <| c_rt <| WE.then_r <| WE.blk_r <| WE.then_r <| WE.blk_r <| WE.then_r ?_; rotate_left)
          exact WE.ret2 b rfl rfl rfl rfl (by rw [hv]; rfl) trivial (by rw [hv]; exact Mem.pick [0] (by decide) rfl)
    · have h4' := h4 rfl
      have hx : ((runesBytes l).extract 4 (runesBytes l).size).size = (runesBytes l).size - 4 := by rw [ByteArray.size_extract]; omega
      (refine r_as rfl rfl <| r_nx h52 <| c_cT rfl <| c_ex <| WE.then_x <| WE.then_x <| WE.blk_x <| WE.then_n h46 <| c_sq fun k59 h59 => c_rg <| r_mv rfl rfl ?_; rotate_left)
      refine r_sF Try.underlying9 rfl rfl (by omega) (by omega) rfl ?_
      refine WX.call (m1 := []) (m2 := []) rfl rfl rfl (decode_spec ((runesBytes l).extract 4 (runesBytes l).size) (by omega) _ _) rfl rfl (fun x _ => ?_)
      have hdp := @decP_props ((runesBytes l).extract 4 (runesBytes l).size)
      generalize decP ((runesBytes l).extract 4 (runesBytes l).size) = r at hdp hv ⊢
      cases r with
      | none =>
        simp only [decV, decM, ecv]
        cases b3
        · (refine r_mv rfl rfl <| r_ex rfl rfl rfl <| r_ex rfl rfl rfl <| r_as rfl rfl <| r_as rfl rfl <| r_nx h59 <| c_sq fun k66 h66 => c_rg <| r_mv rfl rfl <| r_mv rfl rfl <| r_mv rfl rfl <| r_bk (.bool true) rfl rfl (fun _ => by kernel_rfl) rfl <| r_pF rfl rfl rfl <| r_mv rfl rfl <| r_sk rfl rfl <| r_sk rfl rfl <| r_sk rfl rfl <| r_pT rfl rfl rfl <| r_nx h66 <| c_cT rfl <| c_sq fun k68 h68 => c_rg <| r_mi rfl (fun _ => by kernel_rfl) rfl ?_; rotate_left)
          refine WX.call (m1 := []) (m2 := _) rfl rfl rfl (wrap_spec sLabel [] 2 _ _) rfl rfl (fun b _ => ?_)
          (refine r_as rfl rfl <| r_as rfl rfl <| r_nx h68 <| c_rt <| WE.blk_r <| WE.then_r <| WE.blk_r <| WE.then_r <| WE.blk_r <| WE.then_r <| WE.blk_r <| WE.then_r ?_; rotate_left)
          exact WE.ret2 b rfl rfl rfl rfl (by rw [hv]; rfl) trivial (by rw [hv]; exact Mem.pick [0] (by decide) rfl)
        · (refine r_mv rfl rfl <| r_ex rfl rfl rfl <| r_ex rfl rfl rfl <| r_as rfl rfl <| r_as rfl rfl <| r_nx h59 <| c_sq fun k66 h66 => c_rg <| r_mv rfl rfl <| r_mv rfl rfl <| r_sk rfl rfl <| r_sk rfl rfl <| r_pT rfl rfl rfl <| r_mv rfl rfl <| r_sk rfl rfl <| r_sk rfl rfl <| r_sk rfl rfl <| r_pT rfl rfl rfl <| r_nx h66 <| c_cT rfl <| c_sq fun k68 h68 => c_rg <| r_mi rfl (fun _ => by kernel_rfl) rfl ?_; rotate_left)
          refine WX.call (m1 := []) (m2 := _) rfl rfl rfl (wrap_spec sLabel [] 2 _ _) rfl rfl (fun b _ => ?_)
          (refine r_as rfl rfl <| r_as rfl rfl <| r_nx h68 <| c_rt <| WE.blk_r <| WE.then_r <| WE.blk_r <| WE.then_r <| WE.blk_r <| WE.then_r <| WE.blk_r <| WE.then_r ?_; rotate_left)
          exact WE.ret2 b rfl rfl rfl rfl (by rw [hv]; rfl) trivial (by rw [hv]; exact Mem.pick [0] (by decide) rfl)
      | some d =>
        obtain ⟨g1, g2⟩ := hdp rfl
        simp only [decV, decM]
        dsimp only at hv
        cases b3
        · (refine r_mv rfl rfl <| r_ex rfl rfl rfl <| r_ex rfl rfl rfl <| r_as rfl rfl <| r_as rfl rfl <| r_nx h59 <| c_sq fun k73 h73 => c_rg <| r_mv rfl rfl <| r_mv rfl rfl <| r_mv rfl rfl <| r_bk (.bool false) rfl rfl (fun _ => by kernel_rfl) rfl <| r_pF rfl rfl rfl <| r_mv rfl rfl <| r_mv rfl rfl ?_; rotate_left)
          have hm : ∀ mm, Rd w0 mm x.2.1 (runes d) → PureC Try.prog 22 [SlR x.2 d] w0 mm (.bool (mayP d)) := fun mm h => may_spec x.2.1 x.2.2 d (by omega) (fun n hn => by have := g1 n hn; omega) w0 mm h
          generalize mayP d = b4 at hm hv
          refine WX.pure rfl rfl (hm _ (Rd.own 0 rfl)) rfl rfl ?_
          cases b4
          · (refine r_no rfl rfl rfl <| r_pF rfl rfl rfl <| r_nx h73 <| c_cT rfl <| c_sq fun k77 h77 => c_rg <| r_mi rfl (fun _ => by kernel_rfl) rfl ?_; rotate_left)
            refine WX.call (m1 := []) (m2 := _) rfl rfl rfl (wrap_spec sLabel [] 2 _ _) rfl rfl (fun b _ => ?_)
            (refine r_as rfl rfl <| r_as rfl rfl <| r_nx h77 <| c_rt <| WE.blk_r <| WE.then_r <| WE.blk_r <| WE.then_r <| WE.blk_r <| WE.then_r <| WE.blk_r <| WE.then_r ?_; rotate_left)
            exact WE.ret2 b rfl rfl rfl rfl (by rw [hv]; rfl) trivial (by rw [hv]; exact Mem.pick [0] (by decide) rfl)
          · (refine r_no rfl rfl rfl <| r_pF rfl rfl rfl <| r_nx h73 <| c_cF rfl <| c_sk <| WE.blk_n <| WE.then_n h44 <| c_sq fun k77 h77 => c_rg <| r_mv rfl rfl <| r_as rfl rfl <| r_nx h77 <| c_ex <| WE.blk_y rfl <| WE.then_x <| WE.blk_y rfl <| WE.then_x <| WE.blk_x <| WE.then_n h38 <| c_sq fun k79 h79 => c_rg <| r_mv rfl rfl <| r_as rfl rfl <| r_as rfl rfl <| r_nx h79 <| c_rt ?_; rotate_left)
            exact WE.ret2 0 rfl rfl rfl rfl (by rw [hv]; rfl) trivial (by rw [hv]; exact Mem.drop)
        · (refine r_mv rfl rfl <| r_ex rfl rfl rfl <| r_ex rfl rfl rfl <| r_as rfl rfl <| r_as rfl rfl <| r_nx h59 <| c_sq fun k73 h73 => c_rg <| r_mv rfl rfl <| r_mv rfl rfl <| r_sk rfl rfl <| r_sk rfl rfl <| r_pT rfl rfl rfl <| r_mv rfl rfl <| r_sk rfl rfl <| r_sk rfl rfl <| r_sk rfl rfl <| r_pT rfl rfl rfl <| r_nx h73 <| c_cT rfl <| c_sq fun k75 h75 => c_rg <| r_mi rfl (fun _ => by kernel_rfl) rfl ?_; rotate_left)
          refine WX.call (m1 := []) (m2 := _) rfl rfl rfl (wrap_spec sLabel [] 2 _ _) rfl rfl (fun b _ => ?_)
          (refine r_as rfl rfl <| r_as rfl rfl <| r_nx h75 <| c_rt <| WE.blk_r <| WE.then_r <| WE.blk_r <| WE.then_r <| WE.blk_r <| WE.then_r <| WE.blk_r <| WE.then_r ?_; rotate_left)
          exact WE.ret2 b rfl rfl rfl rfl (by rw [hv]; rfl) trivial (by rw [hv]; exact Mem.pick [0] (by decide) rfl)
  · (refine r_nx h29 <| c_cT rfl <| c_sq fun k34 h34 => c_rg <| r_mi rfl (fun _ => by kernel_rfl) rfl ?_; rotate_left)
    refine WX.call (m1 := []) (m2 := _) rfl rfl rfl (wrap_spec sLabel [] 2 _ _) rfl rfl (fun b _ => ?_)
    (refine r_as rfl rfl <| r_as rfl rfl <| r_nx h34 <| c_rt <| WE.then_r ?_; rotate_left)
    exact WE.ret2 b rfl rfl rfl rfl (by rw [hv]; rfl) trivial (by rw [hv]; exact Mem.pick [0] (by decide) rfl)
end Go.Proofs.Ythnabbidlmihbaa
