/- What a code point of a name is mapped to: the contract of fold.Map. -/
import Derived.Test.YthnabbidlmihbaaSpans
namespace Go.Proofs.Ythnabbidlmihbaa
open Go.RowKit Go.Gp

abbrev runes (l : List Int) : List Value := l.map (.int .i32 ·)
/-- A slice of runes that the call owns, and something beside it. -/
abbrev OwnR (p : Option Addr × Nat) (l : List Int) : Res := .own p.1 p.2 l.length (runes l) 21 1
abbrev SlR (p : Option Addr × Nat) (l : List Int) : Value := .slice p.1 l.length p.2

theorem zeroSpan (w : World) : (zeroValue 91).run Try.prog w = .ok (.agg #[.int .i32 0, .int .i32 0, .int .i32 0]) w := by kernel_rfl
def zeros3 : List Value := [.int .i32 0, .int .i32 0, .int .i32 0]
def inSp (s : Int × Int × Int) (c : Int) : Bool := decide (s.1 ≤ c) && decide (c ≤ s.2.1)
def doOf (c : Int) : Int := ((spanList.find? fun s => inSp s c).map (·.2.2)).getD 0
theorem find_skip {α : Type} (f : α → Bool) : ∀ (l : List α) (i : Nat) (d : α), (∀ j, j < i → f (l.getD j d) = false) → i ≤ l.length → l.find? f = (l.drop i).find? f
  | l, 0, d, _, _ => by simp
  | [], i + 1, d, _, h => by simp at h
  | x :: l, i + 1, d, h, hl => by
    have h0 := h 0 (by omega)
    simp at h0
    have ih := find_skip f l i d (fun j hj => by have := h (j + 1) (by omega); simpa using this) (by simpa using hl)
    simp [h0, ih]
theorem doOf_at {c : Int} {i : Nat} (hi : i < 28) (hb : ∀ j, j < i → inSp (sp j) c = false) (h : inSp (sp i) c = true) : doOf c = (sp i).2.2 := by
  have hl : spanList.length = 28 := by decide
  unfold doOf
  rw [find_skip (fun s => inSp s c) spanList i (0, 0, 0) hb (by omega)]
  have hlt : i < spanList.length := by omega
  rw [List.drop_eq_getElem_cons hlt]
  have hs : sp i = spanList[i] := by simp [sp, hlt]
  rw [hs] at h
  rw [List.find?_cons, hs]
  simp only [h]
  rfl
theorem doOf_no {c : Int} (hb : ∀ j, j < 28 → inSp (sp j) c = false) : doOf c = 0 := by
  unfold doOf
  rw [find_skip (fun s => inSp s c) spanList 28 (0, 0, 0) hb (by decide)]
  rfl

def map1 (c d : Int) : List Int × Bool := if d = -1 then ([], false) else if d = -2 then ([], true) else if d = -3 then ([46], true) else if d = -5 then ([115, 115], true) else ([c + d], true)
def mapP (c : Int) : List Int × Bool := if doOf c = -4 then map1 (c - 65248) (doOf (c - 65248)) else map1 c (doOf c)

theorem doOf_cases (c : Int) : (∃ i, i < 28 ∧ inSp (sp i) c = true ∧ doOf c = (sp i).2.2) ∨ doOf c = 0 := by
  by_cases h : ∃ i, i < 28 ∧ inSp (sp i) c = true
  · obtain ⟨i, hi, h⟩ := h
    have : ∀ i, i < 28 → inSp (sp i) c = true → ∃ k, k < 28 ∧ inSp (sp k) c = true ∧ ∀ j, j < k → inSp (sp j) c = false := by
      intro i
      induction i using Nat.strongRecOn with
      | _ i ih =>
        intro hi h
        by_cases hj : ∃ j, j < i ∧ inSp (sp j) c = true
        · obtain ⟨j, hj, hj'⟩ := hj
          exact ih j hj (by omega) hj'
        · exact ⟨i, hi, h, fun j hj1 => by
            cases hb : inSp (sp j) c with
            | false => rfl
            | true => exact absurd ⟨j, hj1, hb⟩ hj⟩
    obtain ⟨k, h1, h2, h3⟩ := this i hi h
    exact .inl ⟨k, h1, h2, doOf_at h1 h3 h2⟩
  · exact .inr (doOf_no fun j hj => by
      cases hb : inSp (sp j) c with
      | false => rfl
      | true => exact absurd ⟨j, hj, hb⟩ h)
theorem doOf_bd (c : Int) (h1 : -2147483648 ≤ c) (h2 : c ≤ 2147483647) : -5 ≤ doOf c ∧ (0 ≤ doOf c → -2147483648 ≤ c + doOf c ∧ c + doOf c ≤ 2147483647) ∧ (doOf c = -4 → 65281 ≤ c ∧ c ≤ 65374) := by
  rcases doOf_cases c with ⟨i, hi, h, e⟩ | e
  · have h' : i = 0 ∨ i = 1 ∨ i = 2 ∨ i = 3 ∨ i = 4 ∨ i = 5 ∨ i = 6 ∨ i = 7 ∨ i = 8 ∨ i = 9 ∨ i = 10 ∨ i = 11 ∨ i = 12 ∨ i = 13 ∨ i = 14 ∨ i = 15 ∨ i = 16 ∨ i = 17 ∨ i = 18 ∨ i = 19 ∨ i = 20 ∨ i = 21 ∨ i = 22 ∨ i = 23 ∨ i = 24 ∨ i = 25 ∨ i = 26 ∨ i = 27 := by omega
    rw [e]
    rcases h' with rfl | rfl | rfl | rfl | rfl | rfl | rfl | rfl | rfl | rfl | rfl | rfl | rfl | rfl | rfl | rfl | rfl | rfl | rfl | rfl | rfl | rfl | rfl | rfl | rfl | rfl | rfl | rfl
    all_goals (simp [inSp, sp, spanList] at h ⊢; try omega)
  · rw [e]; omega

theorem small_do {c : Int} (h1 : 33 ≤ c) (h2 : c ≤ 126) : doOf c = if c ≤ 90 ∧ 65 ≤ c then 32 else 0 := by
  by_cases h : c ≤ 90 ∧ 65 ≤ c
  · rw [if_pos h]
    exact doOf_at (i := 0) (by omega) (by omega) (by simp [inSp, sp, spanList]; omega)
  · rw [if_neg h]
    refine doOf_no fun j hj => ?_
    have h' : j = 0 ∨ j = 1 ∨ j = 2 ∨ j = 3 ∨ j = 4 ∨ j = 5 ∨ j = 6 ∨ j = 7 ∨ j = 8 ∨ j = 9 ∨ j = 10 ∨ j = 11 ∨ j = 12 ∨ j = 13 ∨ j = 14 ∨ j = 15 ∨ j = 16 ∨ j = 17 ∨ j = 18 ∨ j = 19 ∨ j = 20 ∨ j = 21 ∨ j = 22 ∨ j = 23 ∨ j = 24 ∨ j = 25 ∨ j = 26 ∨ j = 27 := by omega
    rcases h' with rfl | rfl | rfl | rfl | rfl | rfl | rfl | rfl | rfl | rfl | rfl | rfl | rfl | rfl | rfl | rfl | rfl | rfl | rfl | rfl | rfl | rfl | rfl | rfl | rfl | rfl | rfl | rfl
    all_goals (simp [inSp, sp, spanList]; omega)
theorem wide_narrow {c : Int} (h : doOf c = -4) : doOf (c - 65248) ≠ -4 := by
  have hb : 65281 ≤ c ∧ c ≤ 65374 := by
    rcases doOf_cases c with ⟨i, hi, h', e⟩ | e
    · rw [h] at e
      have hc : i = 0 ∨ i = 1 ∨ i = 2 ∨ i = 3 ∨ i = 4 ∨ i = 5 ∨ i = 6 ∨ i = 7 ∨ i = 8 ∨ i = 9 ∨ i = 10 ∨ i = 11 ∨ i = 12 ∨ i = 13 ∨ i = 14 ∨ i = 15 ∨ i = 16 ∨ i = 17 ∨ i = 18 ∨ i = 19 ∨ i = 20 ∨ i = 21 ∨ i = 22 ∨ i = 23 ∨ i = 24 ∨ i = 25 ∨ i = 26 ∨ i = 27 := by omega
      rcases hc with rfl | rfl | rfl | rfl | rfl | rfl | rfl | rfl | rfl | rfl | rfl | rfl | rfl | rfl | rfl | rfl | rfl | rfl | rfl | rfl | rfl | rfl | rfl | rfl | rfl | rfl | rfl | rfl
      all_goals (simp [inSp, sp, spanList] at h' e)
      all_goals omega
    · omega
  rw [small_do (by omega) (by omega)]
  split <;> decide

abbrev MapS (c : Int) (w0 : World) (m0 : List Res) : Prop := Ct (α := Option Addr × Nat) Try.prog 27 [.int .i32 c] w0 [] m0 (fun _ => True) (fun p => .tuple #[SlR p (mapP c).1, .bool (mapP c).2]) (fun p => [OwnR p (mapP c).1])

set_option maxRecDepth 100000 in
set_option maxHeartbeats 1000000 in
theorem map_gen (c : Int) (h1 : -2147483648 ≤ c) (h2 : c ≤ 2147483647) (w0 : World) (m0 : List Res) (hrec : doOf c = -4 → MapS (c - 65248) w0 m0) : MapS c w0 m0 := by
  have hbd := doOf_bd c h1 h2
  refine Ct.of Try.func27 rfl (by kernel_rfl) rfl ?_
  refine c_sq fun _ _ => (c_rg ?_); (refine r_as rfl rfl <| r_as rfl rfl ?_; rotate_left); refine r_nx (by with_reducible assumption) (c_sc rfl (c_sq fun _ _ => (c_rg ?_)))
  (refine r_as rfl rfl ?_; rotate_left); refine r_nx (by with_reducible assumption) (c_sq fun _ _ => (c_lb (WE.then_n (by with_reducible assumption) ?_)))
  refine WC.cut (α := Unit) (fun _ => [(0, .int .i32 c), (4, .int .i32 (doOf c))]) (fun _ => []) (fun _ => True) ?_ (fun _ _ => ?_)
  · refine c_sq fun _ _ => (c_rg ?_)
    refine WX.pure rfl rfl (spans_spec _ _) rfl rfl ?_
    (refine r_mv rfl rfl ?_; rotate_left)
    refine r_nx (by with_reducible assumption) (c_bl ?_)
    refine WC.loop (α := Nat) (fun i => [(0, .int .i32 c), (4, .int .i32 0), (7, .agg spanVals.toArray), (8, .int .i64 i)]) (fun _ => []) (fun i => i ≤ 28 ∧ ∀ j, j < i → inSp (sp j) c = false) (fun i => 28 - i) 0 ⟨by omega, by omega⟩ ⟨rfl, rfl, rfl, rfl, trivial⟩ Mem.drop ?_
    rintro i ⟨hi, hb⟩
    by_cases hlt : i < 28
    · (refine c_sq fun k20 h20 => c_rg <| r_ltT rfl rfl rfl (by omega) <| r_nx h20 <| c_sq fun k22 h22 => c_cT rfl <| c_sk <| WE.then_n h22 <| c_sq fun k24 h24 => c_bl <| c_sq fun k26 h26 => c_rg ?_; rotate_left)
      refine r_ix rfl rfl (indexSpans i hlt) rfl ?_
      refine r_al zeroSpan (cs := zeros3) rfl rfl fun g => ?_
      refine r_sa 0 (by kernel_rfl) rfl rfl rfl rfl rfl rfl rfl ?_
      by_cases hin : inSp (sp i) c = true
      · have hin' := hin
        simp only [inSp, Bool.and_eq_true, decide_eq_true_eq] at hin'
        (refine r_nx h26 <| c_sq fun k32 h32 => c_rg <| r_mv rfl rfl <| r_fa 0 rfl (fun _ => by kernel_rfl) rfl <| r_lb 0 Try.underlying21 rfl rfl rfl rfl rfl <| r_geT rfl rfl rfl (by omega) <| r_mv rfl rfl <| r_mv rfl rfl <| r_fa 1 rfl (fun _ => by kernel_rfl) rfl <| r_lb 0 Try.underlying21 rfl rfl rfl rfl rfl <| r_leT rfl rfl rfl (by omega) <| r_pT rfl rfl rfl <| r_nx h32 <| c_cT rfl <| c_sq fun k34 h34 => c_rg <| r_fa 2 rfl (fun _ => by kernel_rfl) rfl <| r_lb 0 Try.underlying21 rfl rfl rfl rfl rfl <| r_as rfl rfl <| r_nx h34 <| c_ex <| WE.blk_y rfl <| WE.then_x <| WE.then_x <| WE.blk_x ?_; rotate_left)
        exact WE.met () trivial ⟨rfl, by rw [doOf_at hlt hb hin]; rfl, trivial⟩ Mem.drop
      · have hin0 : inSp (sp i) c = false := by simpa using hin
        have hin' := hin0
        simp only [inSp, Bool.and_eq_false_iff, decide_eq_false_iff_not] at hin'
        rcases hin' with hin' | hin'
        · (refine r_nx h26 <| c_sq fun k32 h32 => c_rg <| r_mv rfl rfl <| r_fa 0 rfl (fun _ => by kernel_rfl) rfl <| r_lb 0 Try.underlying21 rfl rfl rfl rfl rfl <| r_geF rfl rfl rfl (by omega) <| r_mv rfl rfl <| r_sk rfl rfl <| r_sk rfl rfl <| r_sk rfl rfl <| r_sk rfl rfl <| r_pF rfl rfl rfl <| r_nx h32 <| c_cF rfl <| c_sk <| WE.blk_n <| WE.then_n h24 <| c_rg <| r_ad rfl rfl rfl (wadd64 (by omega)) <| r_mv rfl rfl <| r_nl ?_; rotate_left)
          exact WE.back (i + 1) ⟨by omega, fun j hj => by rcases Nat.lt_succ_iff_lt_or_eq.1 hj with h | rfl; exact hb j h; exact hin0⟩ (by omega) ⟨rfl, rfl, rfl, rfl, trivial⟩ Mem.drop
        · by_cases hlo : (sp i).1 ≤ c
          · (refine r_nx h26 <| c_sq fun k33 h33 => c_rg <| r_mv rfl rfl <| r_fa 0 rfl (fun _ => by kernel_rfl) rfl <| r_lb 0 Try.underlying21 rfl rfl rfl rfl rfl <| r_geT rfl rfl rfl (by omega) <| r_mv rfl rfl <| r_mv rfl rfl <| r_fa 1 rfl (fun _ => by kernel_rfl) rfl <| r_lb 0 Try.underlying21 rfl rfl rfl rfl rfl <| r_leF rfl rfl rfl (by omega) <| r_pT rfl rfl rfl <| r_nx h33 <| c_cF rfl <| c_sk <| WE.blk_n <| WE.then_n h24 <| c_rg <| r_ad rfl rfl rfl (wadd64 (by omega)) <| r_mv rfl rfl <| r_nl ?_; rotate_left)
            exact WE.back (i + 1) ⟨by omega, fun j hj => by rcases Nat.lt_succ_iff_lt_or_eq.1 hj with h | rfl; exact hb j h; exact hin0⟩ (by omega) ⟨rfl, rfl, rfl, rfl, trivial⟩ Mem.drop
          · (refine r_nx h26 <| c_sq fun k33 h33 => c_rg <| r_mv rfl rfl <| r_fa 0 rfl (fun _ => by kernel_rfl) rfl <| r_lb 0 Try.underlying21 rfl rfl rfl rfl rfl <| r_geF rfl rfl rfl (by omega) <| r_mv rfl rfl <| r_sk rfl rfl <| r_sk rfl rfl <| r_sk rfl rfl <| r_sk rfl rfl <| r_pF rfl rfl rfl <| r_nx h33 <| c_cF rfl <| c_sk <| WE.blk_n <| WE.then_n h24 <| c_rg <| r_ad rfl rfl rfl (wadd64 (by omega)) <| r_mv rfl rfl <| r_nl ?_; rotate_left)
            exact WE.back (i + 1) ⟨by omega, fun j hj => by rcases Nat.lt_succ_iff_lt_or_eq.1 hj with h | rfl; exact hb j h; exact hin0⟩ (by omega) ⟨rfl, rfl, rfl, rfl, trivial⟩ Mem.drop
    · have : i = 28 := by omega
      subst this
      (refine c_sq fun k19 h19 => c_rg <| r_ltF rfl rfl rfl (by omega) <| r_nx h19 <| c_sq fun k21 h21 => c_cF rfl <| c_ex <| WE.then_x <| WE.then_x <| WE.blk_x ?_; rotate_left)
      exact WE.met () trivial ⟨rfl, by rw [doOf_no hb]; rfl, trivial⟩ Mem.keep
  · (refine c_sq fun k16 h16 => c_sq fun k18 h18 => c_rg <| r_mv rfl rfl <| r_nx h18 <| c_bl <| c_sq fun k20 h20 => c_rg <| r_eqC rfl rfl rfl (fun _ => ?_) (fun _ => ?_); refine r_as rfl rfl <| r_nx h20 <| c_cT rfl <| c_sq fun k23 h23 => c_rg <| r_as rfl rfl <| r_as rfl rfl <| r_nx h23 <| c_rt <| WE.blk_r <| WE.then_r <| WE.sc_r ?_; rotate_left; refine r_as rfl rfl <| r_nx h20 <| c_cF rfl <| c_sq fun k23 h23 => c_rg <| r_eqC rfl rfl rfl (fun _ => ?_) (fun _ => ?_); refine r_as rfl rfl <| r_nx h23 <| c_cT rfl <| c_sq fun k26 h26 => c_rg <| r_as rfl rfl <| r_as rfl rfl <| r_nx h26 <| c_rt <| WE.blk_r <| WE.then_r <| WE.sc_r ?_; rotate_left; refine r_as rfl rfl <| r_nx h23 <| c_cF rfl <| c_sq fun k26 h26 => c_rg <| r_eqC rfl rfl rfl (fun _ => ?_) (fun _ => ?_); refine r_as rfl rfl <| r_nx h26 <| c_cT rfl <| c_sq fun k29 h29 => c_rg <| r_bo Try.underlying22 rfl (fun _ => by kernel_rfl) rfl rfl rfl (fun _ => ?_); refine r_as rfl rfl <| r_as rfl rfl <| r_nx h29 <| c_rt <| WE.blk_r <| WE.then_r <| WE.sc_r ?_; rotate_left; refine r_as rfl rfl <| r_nx h26 <| c_cF rfl <| c_sq fun k29 h29 => c_rg <| r_eqC rfl rfl rfl (fun _ => ?_) (fun _ => ?_); refine r_as rfl rfl <| r_nx h29 <| c_cT rfl <| c_sq fun k32 h32 => c_rg <| r_mv rfl rfl <| r_su rfl rfl rfl (wsub32 (by omega)) ?_; rotate_left; refine r_as rfl rfl <| r_nx h29 <| c_cF rfl <| c_sq fun k32 h32 => c_rg <| r_eqC rfl rfl rfl (fun _ => ?_) (fun _ => ?_); refine r_as rfl rfl <| r_nx h32 <| c_cT rfl <| c_sq fun k35 h35 => c_rg <| r_bo Try.underlying22 rfl (fun _ => by kernel_rfl) rfl rfl rfl (fun _ => ?_); refine r_as rfl rfl <| r_as rfl rfl <| r_nx h35 <| c_rt <| WE.blk_r <| WE.then_r <| WE.sc_r ?_; rotate_left; refine r_as rfl rfl <| r_nx h32 <| c_cF rfl <| c_sk <| WE.blk_n <| WE.then_n h16 <| c_sq fun k35 h35 => c_rg <| r_mv rfl rfl <| r_mv rfl rfl <| r_ad rfl rfl rfl (wadd32 (by omega)) <| r_bo Try.underlying22 rfl (fun _ => by kernel_rfl) rfl rfl rfl (fun _ => ?_); refine r_as rfl rfl <| r_as rfl rfl <| r_nx h35 <| c_rt <| WE.sc_r ?_; rotate_left)
    · rename_i h
      have e : mapP c = ([], false) := by simp [mapP, map1, h]
      exact WE.ret2 (none, 0) rfl rfl rfl rfl (by rw [e]; rfl) trivial (by rw [e]; exact Mem.nilOwn _ _)
    · rename_i _ h
      have e : mapP c = ([], true) := by simp [mapP, map1, h]
      exact WE.ret2 (none, 0) rfl rfl rfl rfl (by rw [e]; rfl) trivial (by rw [e]; exact Mem.nilOwn _ _)
    · rename_i _ _ h b
      have e : mapP c = ([46], true) := by simp [mapP, map1, h]
      exact WE.ret2 (some ⟨b, 0, none⟩, 1) rfl rfl rfl rfl (by rw [e]; rfl) trivial (by rw [e]; exact Mem.keep)
    · rename_i _ _ _ h
      have hn := wide_narrow h
      have e : mapP c = mapP (c - 65248) := by simp [mapP, h, hn]
      refine WX.call (m1 := []) (m2 := []) rfl rfl rfl (hrec h) rfl rfl (fun p _ => ?_)
      (refine r_ex rfl rfl rfl <| r_ex rfl rfl rfl <| r_as rfl rfl <| r_as rfl rfl <| r_nx h32 <| c_rt <| WE.blk_r <| WE.then_r <| WE.sc_r ?_; rotate_left)
      exact WE.ret2 p rfl rfl rfl rfl (by rw [e]) trivial (by rw [e]; exact Mem.keep)
    · rename_i _ _ _ _ h b
      have e : mapP c = ([115, 115], true) := by simp [mapP, map1, h]
      exact WE.ret2 (some ⟨b, 0, none⟩, 2) rfl rfl rfl rfl (by rw [e]; rfl) trivial (by rw [e]; exact Mem.keep)
    · rename_i h1' h2' h3' h4' h5' b
      have e : mapP c = ([c + doOf c], true) := by simp [mapP, map1, h1', h2', h3', h4', h5']
      exact WE.ret2 (some ⟨b, 0, none⟩, 1) rfl rfl rfl rfl (by rw [e]; rfl) trivial (by rw [e]; exact Mem.keep)

/-- THE CONTRACT of fold.Map. -/
theorem map_spec (c : Int) (h1 : -2147483648 ≤ c) (h2 : c ≤ 2147483647) (w0 : World) (m0 : List Res) : MapS c w0 m0 :=
  map_gen c h1 h2 w0 m0 fun h => by
    have hb := (doOf_bd c h1 h2).2.2 h
    exact map_gen (c - 65248) (by omega) (by omega) w0 m0 fun h' => absurd h' (wide_narrow h)
end Go.Proofs.Ythnabbidlmihbaa
